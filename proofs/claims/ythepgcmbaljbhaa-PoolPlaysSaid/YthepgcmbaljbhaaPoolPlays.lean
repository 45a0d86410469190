/- PoolPlays: the walk of the law, for every script and every number asked for. -/
import Derived.Test.YthepgcmbaljbhaaPoolActs
import Derived.Test.YthepgcmbaljbhaaRefPool
import Derived.Deep.RegionWith
import Derived.Deep.CutBlock
import Derived.Deep.DeepCutAuto
namespace Go.Proofs.Ythepgcmbaljbhaa.Mine
open Go.RowKit Go.Proofs.YthepgcmbaljbhaaW.PrintWords

def PPInv (w : World) (g g2 q : Nat) (i : Value) (wr : World) : Prop :=
  ∃ k : Nat, i = .int .i64 k ∧ k ≤ q ∧ ∃ (B last : Nat) (told : Int), PoolAt wr g B last ∧ RPool wr g2 B told ∧ Told told last ∧ Below w.heap.size w wr
def PPw (w : World) (g g2 : Nat) (wr : World) : Prop := ∃ (B last : Nat) (told : Int), PoolAt wr g B last ∧ RPool wr g2 B told ∧ Told told last ∧ Below w.heap.size w wr
def PAInv (w : World) (g g2 N : Nat) (i : Value) (wr : World) : Prop :=
  ∃ j : Nat, i = .int .i64 j ∧ j ≤ N ∧ ∃ (B last : Nat) (told : Int), PoolAt wr g B last ∧ RPool wr g2 B told ∧ Told told last ∧ Below w.heap.size w wr
theorem PoolAt.move {w w' : World} {g B last : Nat} (h : PoolAt w g B last) (e : w'.heap = w.heap) : PoolAt w' g B last := by unfold PoolAt at h ⊢; rwa [e]
theorem RPool.move {w w' : World} {g B : Nat} {told : Int} (h : RPool w g B told) (e : w'.heap = w.heap) : RPool w' g B told := by unfold RPool at h ⊢; rwa [e]
theorem four_ways (x : Int) : ((x == 1) = true ∨ ((x == 1) = false ∧ (x == -1) = true)) ∨ ((x == 1) = false ∧ (x == -1) = false ∧ (x == 2) = true) ∨ ((x == 1) = false ∧ (x == -1) = false ∧ (x == 2) = false ∧ (x == -2) = true) ∨ ((x == 1) = false ∧ (x == -1) = false ∧ (x == 2) = false ∧ (x == -2) = false) := by
  cases h1 : (x == 1) <;> cases h2 : (x == -1) <;> cases h3 : (x == 2) <;> cases h4 : (x == -2) <;> simp_all
/-- The reference's pool at first. -/
def rzero : Array Value := (List.replicate 128 (Value.bool false) ++ [Value.int .i64 0]).toArray
theorem run_rzero (W : World) : (zeroValue 38).run Try.prog W = .ok (.agg rzero) W := by kernel_rfl
theorem rnew_pool (W : World) : RPool (W.alloc (.cells rzero 38)) W.heap.size 0 0 := by
  refine ⟨rzero, at_new W _, by simp [rzero], fun j hj => ?_, ?_⟩
  · simp only [rzero, List.getElem?_toArray]
    rw [List.getElem?_append_left (by simp; omega), List.getElem?_replicate, if_pos (by omega)]
    simp
  · simp only [rzero, List.getElem?_toArray]
    rw [List.getElem?_append_right (by simp)]
    simp

attribute [local go_sem] max_int min_int max_of_two min_of_two
set_option maxHeartbeats 4000000 in
set_option maxRecDepth 100000 in
theorem pplays_any {A : Option Addr} {c : Nat} {l : List (Int × Int × Int)} (ask : Int) (w : World) (hR : ReadsActs w A l) (hc : l.length ≤ c) (hn : l.length ≤ 9223372036854775807) :
    Calls Try.prog 6 #[.slice A l.length c, .int .i64 ask] w fun e w' => e = .returned (.bool true) ∧ Below w.heap.size w w' := by
  obtain ⟨q, hq, hqn, hq60⟩ := cut_at l.length 60 (by decide)
  have hq6 : q ≤ 60 := by omega
  clear hq60
  have hqc : q ≤ c := by omega
  have hz := run_rzero
  go_enter Try.func6, Try.ntmps6
  go_wp2_with fail
  refine (poolNew_any _).mono ?_
  rintro e w1 ⟨g, rfl, hg, h1, b1⟩
  have hgs : ∀ x, x ∈ [g] → w.heap.size ≤ x := by simpa using hg
  go_wp2_with fail
  have hQ1 := rnew_pool w1
  have hP1 := h1.keep ((Only.refl [] w1).alloc (.cells rzero 38)) (by simp)
  have B1 := b1.alloc b1.size (.cells rzero 38)
  obtain ⟨g2, hg2⟩ : ∃ g2, w1.heap.size = g2 := ⟨_, rfl⟩
  have hne : g < w1.heap.size := lt_of_at h1.1
  rw [hg2] at hQ1 hne
  have hg2s : w.heap.size ≤ g2 := by have := b1.size; omega
  have HG2 := Lib.hid hg2
  rw [hg2]
  clear hg2 h1 b1
  generalize w1.alloc (.cells rzero 38) = wx at hQ1 hP1 B1 ⊢
  refine (pwakes_any _).mono ?_
  rintro e w2 ⟨rfl, b2⟩
  have hP2 := hP1.keep (Only.of_below b2 []) (by simp)
  have hQ2 := hQ1.keep (Only.of_below b2 []) (by simp)
  have B2 := B1.trans (b2.mono B1.size)
  have hT0 : Told 0 62 := Or.inl ⟨rfl, rfl⟩
  have n1 : g ∉ [g2] := by simp; omega
  have n2 : g2 ∉ [g] := by simp; omega
  have hgs2 : ∀ x, x ∈ [g2] → w.heap.size ≤ x := by simpa using hg2s
  clear hP1 hQ1 B1 b2
  go_wp2_with fail
  clear hq
  go_loopw [27] (fun i wr => PPInv w g g2 q i wr) (fun i _ => q - (intOf i).toNat)
  case atStart => exact ⟨0, rfl, Nat.zero_le _, 0, 62, 0, hP2, hQ2, hT0, B2⟩
  case round =>
    clear hP2 hQ2 B2 hT0
    obtain ⟨k, rfl, hk, B, last, told, hP, hQ, hT, hb⟩ := hrel
    by_cases hlt : k < q
    · obtain ⟨ad, rfl, hcell⟩ := hR (by omega)
      obtain ⟨c0, c1, c2⟩ := hcell k (by omega)
      obtain ⟨⟨d, t, o⟩, hx⟩ : ∃ x, l.getD k (0, 0, 0) = x := ⟨_, rfl⟩
      rw [hx] at c0 c1 c2
      simp only at c0 c1 c2
      rw [add_field _ _ _ (by decide)] at c1 c2
      have e0 := (hb.cell (World.block_lt_of_cell? w _ c0)).trans c0
      have e1 := (hb.cell (World.block_lt_of_cell? w _ c1)).trans c1
      have e2 := (hb.cell (World.block_lt_of_cell? w _ c2)).trans c2
      have HR := Lib.hid hR
      clear hx hcell hR c0 c1 c2
      have hPa := hP.keep ((Only.refl [] wr).alloc (.cells #[.int .i64 d, .int .i64 t, .int .i64 o] 40)) (by simp)
      have hQa := hQ.keep ((Only.refl [] wr).alloc (.cells #[.int .i64 d, .int .i64 t, .int .i64 o] 40)) (by simp)
      have hba := hb.alloc hb.size (.cells #[.int .i64 d, .int .i64 t, .int .i64 o] 40)
      have ha := at_new wr (.cells #[.int .i64 d, .int .i64 t, .int .i64 o] 40)
      have n3 : wr.heap.size ∉ [g] := by have := lt_of_at hP.1; simp; omega
      have n4 : wr.heap.size ∉ [g2] := by obtain ⟨cs, hcs, _⟩ := hQ; have := lt_of_at hcs; simp; omega
      clear hP hQ hb
      have HPa := Lib.hid hPa
      have HQa := Lib.hid hQa
      have HBa := Lib.hid hba
      have HA := Lib.hid ha
      have HT := Lib.hid hT
      clear hPa hQa hba ha hT
      go_upto_block 2 with (fail)
      go_cut [27] (fun s27 wc => s27 = .int .i64 k ∧ PPw w g g2 wc)
      case first =>
        rcases four_ways (Int.tmod d 4) with (hd | ⟨hd, hd1⟩) | ⟨hd, hd1, hd2⟩ | ⟨hd, hd1, hd2, hd3⟩ | ⟨hd, hd1, hd2, hd3⟩
        · go_wp2_with fail
          go_region_with (first | (go_at_call 20; refine (claim_any (g := g) (B := B) (last := last) t _ ?_).mono ?_; (exact HPa.out); rintro e wP ⟨rfl, hPP, oP⟩; have cP : wP.cell? ⟨wr.heap.size, 1, none⟩ = some (.int .i64 t) := (by exact at_cell (oP.at HA.out n3) 1)) | (go_at_call 21; refine (rclaim_any (g := g2) (B := B) (told := told) t _ ?_).mono ?_; (exact (HQa.out.move (by rfl)).keep oP n2); rintro e wR ⟨rfl, hRR, oR⟩))
          all_goals
            have bP := HBa.out.drew.trans (oP.below HBa.out.drew.size hgs)
            have bR := bP.trans (oR.below bP.size hgs2)
            have hI : PPw w g g2 wR := ⟨_, _, _, hPP.keep oR n1, hRR, HT.out, bR⟩
            clear hPP hRR oP oR cP bP bR
            go_wp2_with fail
            go_meet
            case rel => exact ⟨rfl, hI⟩
        · go_wp2_with fail
          go_region_with (first | (go_at_call 20; refine (claim_any (g := g) (B := B) (last := last) t _ ?_).mono ?_; (exact HPa.out); rintro e wP ⟨rfl, hPP, oP⟩; have cP : wP.cell? ⟨wr.heap.size, 1, none⟩ = some (.int .i64 t) := (by exact at_cell (oP.at HA.out n3) 1)) | (go_at_call 21; refine (rclaim_any (g := g2) (B := B) (told := told) t _ ?_).mono ?_; (exact (HQa.out.move (by rfl)).keep oP n2); rintro e wR ⟨rfl, hRR, oR⟩))
          all_goals
            have bP := HBa.out.drew.trans (oP.below HBa.out.drew.size hgs)
            have bR := bP.trans (oR.below bP.size hgs2)
            have hI : PPw w g g2 wR := ⟨_, _, _, hPP.keep oR n1, hRR, HT.out, bR⟩
            clear hPP hRR oP oR cP bP bR
            go_wp2_with fail
            go_meet
            case rel => exact ⟨rfl, hI⟩
        · go_wp2_with fail
          go_region_with (first | (go_at_call 22; refine (free_any (g := g) (B := B) (last := last) t _ ?_).mono ?_; (exact HPa.out); rintro e wP ⟨rfl, hPP, oP⟩; have cP : wP.cell? ⟨wr.heap.size, 1, none⟩ = some (.int .i64 t) := (by exact at_cell (oP.at HA.out n3) 1)) | (go_at_call 23; refine (rfree_any (g := g2) (B := B) (told := told) t _ ?_).mono ?_; (exact (HQa.out.move (by rfl)).keep oP n2); rintro e wR ⟨rfl, hRR, oR⟩))
          all_goals
            have bP := HBa.out.drew.trans (oP.below HBa.out.drew.size hgs)
            have bR := bP.trans (oR.below bP.size hgs2)
            have hI : PPw w g g2 wR := ⟨_, _, _, hPP.keep oR n1, hRR, HT.out, bR⟩
            clear hPP hRR oP oR cP bP bR
            go_wp2_with fail
            go_meet
            case rel => exact ⟨rfl, hI⟩
        · go_wp2_with fail
          go_region_with (first | (go_at_call 22; refine (free_any (g := g) (B := B) (last := last) t _ ?_).mono ?_; (exact HPa.out); rintro e wP ⟨rfl, hPP, oP⟩; have cP : wP.cell? ⟨wr.heap.size, 1, none⟩ = some (.int .i64 t) := (by exact at_cell (oP.at HA.out n3) 1)) | (go_at_call 23; refine (rfree_any (g := g2) (B := B) (told := told) t _ ?_).mono ?_; (exact (HQa.out.move (by rfl)).keep oP n2); rintro e wR ⟨rfl, hRR, oR⟩))
          all_goals
            have bP := HBa.out.drew.trans (oP.below HBa.out.drew.size hgs)
            have bR := bP.trans (oR.below bP.size hgs2)
            have hI : PPw w g g2 wR := ⟨_, _, _, hPP.keep oR n1, hRR, HT.out, bR⟩
            clear hPP hRR oP oR cP bP bR
            go_wp2_with fail
            go_meet
            case rel => exact ⟨rfl, hI⟩
        · obtain ⟨p, N, hp, hp0, hN, hN3, -⟩ := rounds_of o 70 (by decide)
          have hN4 : N < 70 := by omega
          clear hN3
          go_wp2_with fail
          rw [hN]
          clear hN hp hp0
          go_loopw [39] (fun i wr => PAInv w g g2 (N + 1) i wr) (fun i _ => N + 1 - (intOf i).toNat)
          case atStart => exact ⟨0, rfl, Nat.zero_le _, B, last, told, HPa.out, HQa.out, HT.out, HBa.out⟩
          case round =>
            obtain ⟨j, rfl, hj, B3, last3, told3, hP3, hQ3, hT3, hb3⟩ := hrel
            by_cases hjt : j < N + 1
            · go_wp2_with fail
              refine (assign_any _ hP3).mono ?_
              rintro e w4 ⟨rfl, hP4, o4⟩
              have hQ4 := hQ3.keep o4 n2
              have b4 := hb3.trans (o4.below hb3.size hgs)
              go_wp2_with fail
              refine (rassign_any _ hQ4 hT3 hP3.2.2).mono ?_
              rintro e w5 ⟨rfl, ⟨told5, hQ5, hT5⟩, o5⟩
              have hP5 := hP4.keep o5 n1
              have b5 := b4.trans (o5.below b4.size hgs2)
              have hI : PAInv w g g2 (N + 1) (.int .i64 ((j : Int) + 1)) w5 := ⟨j + 1, by go_num, by omega, _, _, _, hP5, hQ5, hT5, b5⟩
              clear hP3 hQ3 hT3 hb3 hP4 o4 hQ4 b4 hQ5 hT5 o5 hP5 b5
              go_wp2
              go_roundw
              case rel => exact hI
              case measure => simp [intOf]; omega
            · have hI : PPw w g g2 _ := ⟨_, _, _, hP3, hQ3, hT3, hb3⟩
              clear hP3 hQ3 hT3 hb3
              go_wp2_with fail
              go_meet
              case rel => exact ⟨rfl, hI⟩
      case rest =>
        obtain ⟨rfl, B2, last2, told2, hP2, hQ2, hT2, b2⟩ := hcut
        have HT2 := Lib.hid hT2
        clear hT2
        have b4 := b2
        go_wp2_with fail
        refine (list_any _ hP2).mono ?_
        rintro e w3 ⟨A3, c3, rfl, hL3, hP3, b3⟩
        have hQ3 := hQ2.keep (Only.of_below b3 []) (by simp)
        have B3 := b4.trans (b3.mono b4.size)
        go_wp2_with fail
        refine (rlist_any _ hQ3).mono ?_
        rintro e w5 ⟨A5, c5, rfl, hL5, b5⟩
        have hP5 := hP3.keep (Only.of_below b5 []) (by simp)
        have hQ5 := hQ3.keep (Only.of_below b5 []) (by simp)
        have B5 := B3.trans (b5.mono B3.size)
        have hlen := listB_length B2 63
        obtain ⟨hlc3, hL3⟩ := hL3
        obtain ⟨hlc5, hL5⟩ := hL5
        have hL3' : listB B2 63 = [] ∨ ∃ r, A3 = some ⟨r, 0, none⟩ ∧ Row w5 r 0 (listB B2 63) := by
          rcases hL3 with h | ⟨r, h1, _, h2, h3⟩
          · exact Or.inl h
          · exact Or.inr ⟨r, h1, h3.keep (fun hl => b5.block r hl)⟩
        have hL5' : listB B2 63 = [] ∨ ∃ r, A5 = some ⟨r, 0, none⟩ ∧ Row w5 r 0 (listB B2 63) := by
          rcases hL5 with h | ⟨r, h1, _, h2, h3⟩
          · exact Or.inl h
          · exact Or.inr ⟨r, h1, h3⟩
        clear hL3 hL5 hP2 hQ2 hP3 hQ3 b2 b3 b4 b5 B3
        generalize listB B2 63 = L at hlen hlc3 hlc5 hL3' hL5' ⊢
        have HL3 := Lib.hid hL3'
        have HL5 := Lib.hid hL5'
        clear hL3' hL5'
        go_wp2_with fail
        refine (has_any _ _ hP5).mono ?_
        rintro e w6 ⟨rfl, n6, rfl⟩
        have hQ6 := hQ5.keep ((Only.refl [] w5).drewN n6) (by simp)
        have HP6 := Lib.hid hP5
        have HQ6 := Lib.hid hQ5
        have HB6 := Lib.hid B5
        clear hP5 hQ5 B5
        go_wp2_with fail
        refine (rhas_any _ _ hQ6).mono ?_
        rintro e w7 ⟨rfl, rfl⟩
        clear hQ6
        obtain ⟨hb, hhb⟩ : ∃ b, hasB B2 ask = b := ⟨_, rfl⟩
        rw [hhb]
        clear hhb
        cases hb
        all_goals
          go_wp2_with fail
          go_loopw [104] (fun i wr => ∃ j : Nat, i = .int .i64 j ∧ j ≤ L.length ∧ ∃ n, wr = w5.drewN n) (fun i _ => L.length - (intOf i).toNat)
          case atStart => exact ⟨0, rfl, Nat.zero_le _, n6, rfl⟩
          case round =>
            obtain ⟨j, rfl, hj, n, rfl⟩ := hrel
            by_cases hjt : j < L.length
            · obtain ⟨r3, rfl, hr3⟩ : ∃ r, A3 = some ⟨r, 0, none⟩ ∧ Row w5 r 0 L := by
                rcases HL3.out with h | h
                · rw [h] at hjt; simp at hjt
                · exact h
              obtain ⟨r5, rfl, hr5⟩ : ∃ r, A5 = some ⟨r, 0, none⟩ ∧ Row w5 r 0 L := by
                rcases HL5.out with h | h
                · rw [h] at hjt; simp at hjt
                · exact h
              obtain ⟨x, hx⟩ : ∃ x, L.getD j 0 = x := ⟨_, rfl⟩
              have x3 := hr3 j hjt
              have x5 := hr5 j hjt
              rw [hx, Nat.zero_add] at x3 x5
              have i0 : (0 : Int) ≤ (j : Int) := by omega
              have i1 : (j : Int) < (L.length : Int) := by omega
              clear hr3 hr5 hx
              go_wp2
              go_quiet (fail)
              go_wp2
              go_roundw
              case rel => exact ⟨j + 1, by go_num, by omega, _, rfl⟩
              case measure => simp [intOf]; omega
            · go_wp2
              go_roundw
              case rel => exact ⟨k + 1, by go_num, by omega, B2, last2, told2, HP6.out.keep ((Only.refl [] w5).drewN n) (by simp), HQ6.out.keep ((Only.refl [] w5).drewN n) (by simp), HT2.out, HB6.out.trans (((Only.refl [] w5).drewN n).below HB6.out.size (by simp))⟩
              case measure => simp [intOf]; omega
    · go_wp2
      go_ret
      exact ⟨rfl, hb⟩
end Go.Proofs.Ythepgcmbaljbhaa.Mine
