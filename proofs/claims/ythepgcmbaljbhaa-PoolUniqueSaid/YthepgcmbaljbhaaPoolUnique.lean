/- PoolUnique: the walk of the law, for every script. -/
import Derived.Test.YthepgcmbaljbhaaPoolClaims
import Derived.Deep.RegionWith
namespace Go.Proofs.Ythepgcmbaljbhaa.Mine
section
open Go.RowKit Go.ChangeShapes Go.WideShapes Go.Deep Go.Proofs.YthepgcmbaljbhaaW.PrintWords

/-- An argument that is a slice of acts, opened. -/
theorem open_acts_wf {H : Type} {enc : TypeId × Value → H} {W : World} {base : Nat} {sp : Nat → Bool} {held : Bool} {a : Option Addr} {len cap : Nat} {d : DataW H} {ps : List MemPlace}
    (h : DataW.Trod enc Try.prog W base sp held 32 (.slice a len cap) d ps) :
    ∃ l : List (Int × Int × Int), l.length = len ∧ len ≤ cap ∧ ReadsActs W a l ∧ ∀ j, j < l.length → (Lit.int .i64 (l.getD j (0, 0, 0)).2.1).wf = true := by
  obtain ⟨fuel, hf⟩ := h
  rcases open_slice Try.underlying32 hf with ⟨hcs, _⟩ | ⟨ad, l0, c0, m, n, D, Pl, hcs, _, hl, _, hm, _, hi⟩
  · simp [Value.cells] at hcs
    obtain ⟨rfl, rfl, rfl⟩ := hcs
    exact ⟨[], rfl, Nat.le_refl _, fun h => by simp at h, fun j hj => by simp at hj⟩
  · simp [Value.cells] at hcs
    obtain ⟨rfl, rfl, rfl⟩ := hcs
    have hlm : len ≤ m := by rw [hm]; split <;> omega
    have key : ∀ j, j < len → ∃ x : Int × Int × Int, W.cell? (ad.add (j * 3)) = some (.int .i64 x.1) ∧ W.cell? (ad.add (j * 3 + 1)) = some (.int .i64 x.2.1) ∧ (W.cell? (ad.add (j * 3 + 2)) = some (.int .i64 x.2.2) ∧ (Lit.int .i64 x.2.1).wf = true) := by
      intro j hj
      obtain ⟨cs, h1, h2⟩ := hi j (by omega)
      rw [cellsAct] at h1
      obtain ⟨_, hlen, hat⟩ := World.cells?_some h1
      match cs, hlen with
      | [v0, v1, v2], _ =>
        obtain ⟨xs, n', _, _, _, hxl, hfs⟩ := DataW.trod_struct Try.underlying40 h2
        match xs, hxl with
        | [y0, y1, y2], _ =>
          have g0 := hfs 0 _ rfl
          have g1 := hfs 1 _ rfl
          have g2 := hfs 2 _ rfl
          simp [cellsInt] at g0 g1 g2
          obtain ⟨x0, e0, _, _⟩ := DataW.trod_int Try.underlying3 g0
          obtain ⟨x1, e1, _, hx1⟩ := DataW.trod_int Try.underlying3 g1
          obtain ⟨x2, e2, _, _⟩ := DataW.trod_int Try.underlying3 g2
          simp at e0 e1 e2
          subst e0 e1 e2
          have q0 := hat 0 (by decide)
          have q1 := hat 1 (by decide)
          have q2 := hat 2 (by decide)
          rw [Deep.add_add] at q0 q1 q2
          exact ⟨(x0, x1, x2), q0, q1, q2, hx1⟩
    obtain ⟨f, hf'⟩ := choose_lt (α := Int × Int × Int) key
    have e : ∀ j, j < len → ((List.range len).map f).getD j (0, 0, 0) = f j := fun j hj => by simp [hj]
    refine ⟨(List.range len).map f, by simp, hl, fun _ => ⟨ad, rfl, fun j hj => ?_⟩, fun j hj => ?_⟩
    · have hjl : j < len := by simpa using hj
      rw [e j hjl]
      obtain ⟨h1, h2, h3, _⟩ := hf' j hjl
      exact ⟨h1, h2, h3⟩
    · have hjl : j < len := by simpa using hj
      rw [e j hjl]
      exact (hf' j hjl).2.2.2

end
open Go.RowKit Go.Proofs.YthepgcmbaljbhaaW.PrintWords

theorem five_ways (x : Int) : ((x == 1) = true ∨ ((x == 1) = false ∧ (x == -1) = true)) ∨ (((x == 1) = false ∧ (x == -1) = false ∧ (x == 2) = true) ∨ ((x == 1) = false ∧ (x == -1) = false ∧ (x == 2) = false ∧ (x == -2) = true)) ∨ ((x == 1) = false ∧ (x == -1) = false ∧ (x == 2) = false ∧ (x == -2) = false) := by
  cases h1 : (x == 1) <;> cases h2 : (x == -1) <;> cases h3 : (x == 2) <;> cases h4 : (x == -2) <;> simp_all
theorem PoolAt.move {w w' : World} {g B last : Nat} (h : PoolAt w g B last) (e : w'.heap = w.heap) : PoolAt w' g B last := by unfold PoolAt at h ⊢; rwa [e]

def PUInv (w : World) (g b q : Nat) (i : Value) (wr : World) : Prop :=
  ∃ k : Nat, i = .int .i64 k ∧ k ≤ q ∧ ∃ B last, PoolAt wr g B last ∧ (∃ n, On wr b (hasB B) (cntB B) n ∧ n ≤ k) ∧ Below w.heap.size w wr
def PFInv (w : World) (g b : Nat) (wr : World) : Prop :=
  ∃ B last, PoolAt wr g B last ∧ (∃ n, On wr b (hasB B) (cntB B) n ∧ n ≤ 60 + cntB B) ∧ Below w.heap.size w wr

theorem strike_pool {w : World} {b B n : Nat} {t : Int} (h : On w b (fun z => hasB B z && !decide (z = t)) (dropC (cntB B) (hasB B t)) n) : On w b (hasB (freeB B t)) (cntB (freeB B t)) n := by
  cases hh : hasB B t
  · have hf : freeB B t = B := by unfold freeB; rw [hh]; rfl
    rw [hf]
    rw [hh] at h
    simp only [dropC, Bool.false_eq_true, if_false, Nat.sub_zero] at h
    have e : (fun z => hasB B z && !decide (z = t)) = hasB B := by
      funext z
      by_cases e : z = t
      · subst e; rw [hh]; rfl
      · rw [decide_eq_false e]; simp
    rw [e] at h
    exact h
  · have hf : freeB B t = offB B (t - 64).toNat := by unfold freeB; rw [hh]; rfl
    have hr : 64 ≤ t ∧ t ≤ 126 := by
      by_cases hr : 64 ≤ t ∧ t ≤ 126
      · exact hr
      · rw [hasB_none B t (by omega)] at hh; cases hh
    have hj : (t - 64).toNat < 63 := by omega
    have hb : B.testBit (t - 64).toNat = true := by unfold hasB at hh; rw [decide_eq_true hr] at hh; simpa using hh
    rw [hf, hasB_off B _ hj, cnt_off B _ hj hb, show 64 + (((t - 64).toNat : Nat) : Int) = t by omega]
    rw [hh] at h
    simp only [dropC, if_true] at h
    exact h

attribute [local go_sem] max_int min_int max_of_two min_of_two
set_option maxHeartbeats 4000000 in
set_option maxRecDepth 100000 in
theorem unique_any {A : Option Addr} {c : Nat} {l : List (Int × Int × Int)} (w : World) (hR : ReadsActs w A l) (hw : ∀ j, j < l.length → (Lit.int .i64 (l.getD j (0, 0, 0)).2.1).wf = true) (hc : l.length ≤ c) (hn : l.length ≤ 9223372036854775807) :
    Calls Try.prog 7 #[.slice A l.length c] w fun e w' => e = .returned (.bool true) ∧ Below w.heap.size w w' := by
  obtain ⟨q, hq, hqn, hq60⟩ := cut_at l.length 60 (by decide)
  have hq6 : q ≤ 60 := by omega
  clear hq60
  have hqc : q ≤ c := by omega
  have hmm := @run_makeMap Try.prog
  go_enter Try.func7, Try.ntmps7
  go_wp2_with fail
  refine (poolNew_any _).mono ?_
  rintro e w1 ⟨g, rfl, hg, h1, b1⟩
  have hgs : ∀ x, x ∈ [g] → w.heap.size ≤ x := by simpa using hg
  have hgl := lt_of_at h1.1
  have hP0 := h1.keep ((Only.refl [] w1).alloc (.map #[] 0)) (by simp)
  have hM0 := On.made w1
  have B0 := b1.alloc b1.size (.map #[] 0)
  obtain ⟨b, hb⟩ : ∃ b, w1.heap.size = b := ⟨_, rfl⟩
  rw [hb] at hM0
  have n1 : b ∉ [g] := by simp; omega
  have n2 : g ∉ [b] := by simp; omega
  have hbs : ∀ x, x ∈ [b] → w.heap.size ≤ x := by have := b1.size; simp; omega
  have HB := Lib.hid hb
  go_wp2_with fail
  clear hb hq h1 b1 hmm
  have e0 : hasB 0 = fun _ => false := by funext y; simp [hasB]
  have e1 : cntB 0 = 0 := by decide
  rw [← e0, ← e1] at hM0
  go_loopw [22] (fun i wr => PUInv w g b q i wr) (fun i _ => q - (intOf i).toNat)
  case atStart => exact ⟨0, rfl, Nat.zero_le _, 0, 62, hP0, ⟨0, hM0, Nat.le_refl _⟩, B0⟩
  case round =>
    clear hP0 hM0 B0 e0 e1
    obtain ⟨k, rfl, hk, B, last, hP, ⟨nm, hM, hnm⟩, hb⟩ := hrel
    by_cases hlt : k < q
    · obtain ⟨ad, rfl, hcell⟩ := hR (by omega)
      obtain ⟨c0, c1, c2⟩ := hcell k (by omega)
      have hxw := hw k (by omega)
      obtain ⟨⟨d, t, o⟩, hx⟩ : ∃ x, l.getD k (0, 0, 0) = x := ⟨_, rfl⟩
      rw [hx] at c0 c1 c2 hxw
      simp only at c0 c1 c2 hxw
      rw [add_field _ _ _ (by decide)] at c1 c2
      have e0 := (hb.cell (World.block_lt_of_cell? w _ c0)).trans c0
      have e1 := (hb.cell (World.block_lt_of_cell? w _ c1)).trans c1
      have e2 := (hb.cell (World.block_lt_of_cell? w _ c2)).trans c2
      have HR := Lib.hid hR
      have HW := Lib.hid hw
      clear hx hcell hR c0 c1 c2 hw
      have hPa := hP.keep ((Only.refl [] wr).alloc (.cells #[.int .i64 d, .int .i64 t, .int .i64 o] 40)) (by simp)
      have hMa := hM.keep ((Only.refl [] wr).alloc (.cells #[.int .i64 d, .int .i64 t, .int .i64 o] 40)) (by simp)
      have hba := hb.alloc hb.size (.cells #[.int .i64 d, .int .i64 t, .int .i64 o] 40)
      have ha := at_new wr (.cells #[.int .i64 d, .int .i64 t, .int .i64 o] 40)
      have n3 : wr.heap.size ∉ [g] := by have := lt_of_at hP.1; simp; omega
      have n4 : wr.heap.size ∉ [b] := by have := hM.lt; simp; omega
      clear hP hM hb
      rcases five_ways (Int.tmod d 4) with (hd | ⟨hd, hd1⟩) | (⟨hd, hd1, hd2⟩ | ⟨hd, hd1, hd2, hd3⟩) | ⟨hd, hd1, hd2, hd3⟩
      · go_wp2_with fail
        refine (claim_any t _ hPa).mono ?_
        rintro e w2 ⟨rfl, hP2, o2⟩
        have hM2 := hMa.keep o2 n1
        have b2 := hba.trans (o2.below hba.size hgs)
        have ca := at_cell (o2.at ha n3) 1
        simp at ca
        have hlk := hM2.look t hxw
        clear hPa hMa hba ha o2
        rcases claim_cases B t with ⟨h1, h2, h3⟩ | ⟨h1, h1', h2, h3⟩ | ⟨h1, h1', h4, h2, h3⟩ | ⟨h1, h1', h4, h2, h3, h5⟩
        all_goals
          first
            | (rw [h2]
               rw [h3] at hP2
               have hI : PUInv w g b q (.int .i64 ((k : Int) + 1)) w2 := ⟨k + 1, by go_num, by omega, B, last, hP2, ⟨nm, hM2, by omega⟩, b2⟩
               clear hP2 hM2 b2 h2 h3 hlk ca
               go_wp2
               go_roundw
               case rel => exact hI
               case measure => simp [intOf]; omega)
            | (rw [h2]
               rw [h3] at hP2
               rw [h4] at hlk
               have HM2 := Lib.hid hM2
               have HP2 := Lib.hid hP2
               have HB2 := Lib.hid b2
               have H45 := Lib.hid (And.intro h4 h5)
               clear hP2 hM2 b2 h2 h3 h4 h5
               go_wp2_with (at_mapUpdate; refine wpList_store_on rfl _ _ _ rfl HM2.out t rfl rfl rfl hxw H45.out.1 ?c1 ?c2)
               case c1 => unfold maxLen; omega
               case c2 =>
                 intro w3 hM3 o3
                 have hj : (t - 64).toNat < 63 := by omega
                 have hI : PUInv w g b q (.int .i64 ((k : Int) + 1)) w3 := by
                   refine ⟨k + 1, by go_num, by omega, orB B (t - 64).toNat, last, HP2.out.keep o3 n2, ⟨nm + 1, ?_, by omega⟩, HB2.out.trans (o3.below HB2.out.size hbs)⟩
                   rw [hasB_or B _ hj, cnt_or B _ hj H45.out.2, show 64 + (((t - 64).toNat : Nat) : Int) = t by omega]
                   exact hM3
                 clear hM3 o3
                 go_wp2
                 go_roundw
                 case rel => exact hI
                 case measure => simp [intOf]; omega)
      · go_wp2_with fail
        refine (claim_any t _ hPa).mono ?_
        rintro e w2 ⟨rfl, hP2, o2⟩
        have hM2 := hMa.keep o2 n1
        have b2 := hba.trans (o2.below hba.size hgs)
        have ca := at_cell (o2.at ha n3) 1
        simp at ca
        have hlk := hM2.look t hxw
        clear hPa hMa hba ha o2
        rcases claim_cases B t with ⟨h1, h2, h3⟩ | ⟨h1, h1', h2, h3⟩ | ⟨h1, h1', h4, h2, h3⟩ | ⟨h1, h1', h4, h2, h3, h5⟩
        all_goals
          first
            | (rw [h2]
               rw [h3] at hP2
               have hI : PUInv w g b q (.int .i64 ((k : Int) + 1)) w2 := ⟨k + 1, by go_num, by omega, B, last, hP2, ⟨nm, hM2, by omega⟩, b2⟩
               clear hP2 hM2 b2 h2 h3 hlk ca
               go_wp2
               go_roundw
               case rel => exact hI
               case measure => simp [intOf]; omega)
            | (rw [h2]
               rw [h3] at hP2
               rw [h4] at hlk
               have HM2 := Lib.hid hM2
               have HP2 := Lib.hid hP2
               have HB2 := Lib.hid b2
               have H45 := Lib.hid (And.intro h4 h5)
               clear hP2 hM2 b2 h2 h3 h4 h5
               go_wp2_with (at_mapUpdate; refine wpList_store_on rfl _ _ _ rfl HM2.out t rfl rfl rfl hxw H45.out.1 ?c1 ?c2)
               case c1 => unfold maxLen; omega
               case c2 =>
                 intro w3 hM3 o3
                 have hj : (t - 64).toNat < 63 := by omega
                 have hI : PUInv w g b q (.int .i64 ((k : Int) + 1)) w3 := by
                   refine ⟨k + 1, by go_num, by omega, orB B (t - 64).toNat, last, HP2.out.keep o3 n2, ⟨nm + 1, ?_, by omega⟩, HB2.out.trans (o3.below HB2.out.size hbs)⟩
                   rw [hasB_or B _ hj, cnt_or B _ hj H45.out.2, show 64 + (((t - 64).toNat : Nat) : Int) = t by omega]
                   exact hM3
                 clear hM3 o3
                 go_wp2
                 go_roundw
                 case rel => exact hI
                 case measure => simp [intOf]; omega)
      · have ca := at_cell ha 1
        simp at ca
        have hlk := (hMa.move (w' := (wr.alloc (.cells #[.int .i64 d, .int .i64 t, .int .i64 o] 40)).drew) rfl).look t hxw
        have HPa := Lib.hid hPa
        have HMa := Lib.hid hMa
        have HBa := Lib.hid hba
        have HA := Lib.hid ha
        clear hPa hMa hba ha
        obtain ⟨hb, hhb⟩ : ∃ hb, hasB B t = hb := ⟨_, rfl⟩
        rw [hhb] at hlk
        have HHB := Lib.hid hhb
        clear hhb
        go_wp2_with fail
        go_region_with (go_at_call 22; refine (free_any (g := g) (B := B) (last := last) t _ ?_).mono ?_; (exact HPa.out.move (by rfl)); rintro e wP ⟨rfl, hPP, oP⟩; rw [HHB.out]; have cP : wP.cell? ⟨wr.heap.size, 1, none⟩ = some (.int .i64 t) := (by exact at_cell (oP.at HA.out n3) 1); have hlP := ((HMa.out.move (w' := (wr.alloc (.cells #[.int .i64 d, .int .i64 t, .int .i64 o] 40)).drew) rfl).keep oP n1).look t hxw; rw [HHB.out] at hlP)
        all_goals
          have HPP := Lib.hid hPP
          have HOP := Lib.hid oP
          have hMP := (HMa.out.move (w' := (wr.alloc (.cells #[.int .i64 d, .int .i64 t, .int .i64 o] 40)).drew) rfl).keep oP n1
          have bP := HBa.out.drew.trans (oP.below HBa.out.drew.size hgs)
          have HMP := Lib.hid hMP
          have HBP := Lib.hid bP
          clear hPP oP hMP bP
          go_wp2_with (at_delete; refine wpList_strike_on rfl _ _ rfl HMP.out t rfl rfl hxw ?c1)
          case c1 =>
            intro w3 hM3 o3
            have hI : PUInv w g b q (.int .i64 ((k : Int) + 1)) w3 := ⟨k + 1, by go_num, by omega, freeB B t, last, HPP.out.keep o3 n2, ⟨nm, strike_pool (B := B) (t := t) hM3, by omega⟩, HBP.out.trans (o3.below HBP.out.size hbs)⟩
            clear hM3 o3
            go_wp2
            go_roundw
            case rel => exact hI
            case measure => simp [intOf]; omega
      · have ca := at_cell ha 1
        simp at ca
        have hlk := (hMa.move (w' := (wr.alloc (.cells #[.int .i64 d, .int .i64 t, .int .i64 o] 40)).drew) rfl).look t hxw
        have HPa := Lib.hid hPa
        have HMa := Lib.hid hMa
        have HBa := Lib.hid hba
        have HA := Lib.hid ha
        clear hPa hMa hba ha
        obtain ⟨hb, hhb⟩ : ∃ hb, hasB B t = hb := ⟨_, rfl⟩
        rw [hhb] at hlk
        have HHB := Lib.hid hhb
        clear hhb
        go_wp2_with fail
        go_region_with (go_at_call 22; refine (free_any (g := g) (B := B) (last := last) t _ ?_).mono ?_; (exact HPa.out.move (by rfl)); rintro e wP ⟨rfl, hPP, oP⟩; rw [HHB.out]; have cP : wP.cell? ⟨wr.heap.size, 1, none⟩ = some (.int .i64 t) := (by exact at_cell (oP.at HA.out n3) 1); have hlP := ((HMa.out.move (w' := (wr.alloc (.cells #[.int .i64 d, .int .i64 t, .int .i64 o] 40)).drew) rfl).keep oP n1).look t hxw; rw [HHB.out] at hlP)
        all_goals
          have HPP := Lib.hid hPP
          have HOP := Lib.hid oP
          have hMP := (HMa.out.move (w' := (wr.alloc (.cells #[.int .i64 d, .int .i64 t, .int .i64 o] 40)).drew) rfl).keep oP n1
          have bP := HBa.out.drew.trans (oP.below HBa.out.drew.size hgs)
          have HMP := Lib.hid hMP
          have HBP := Lib.hid bP
          clear hPP oP hMP bP
          go_wp2_with (at_delete; refine wpList_strike_on rfl _ _ rfl HMP.out t rfl rfl hxw ?c1)
          case c1 =>
            intro w3 hM3 o3
            have hI : PUInv w g b q (.int .i64 ((k : Int) + 1)) w3 := ⟨k + 1, by go_num, by omega, freeB B t, last, HPP.out.keep o3 n2, ⟨nm, strike_pool (B := B) (t := t) hM3, by omega⟩, HBP.out.trans (o3.below HBP.out.size hbs)⟩
            clear hM3 o3
            go_wp2
            go_roundw
            case rel => exact hI
            case measure => simp [intOf]; omega
      · rcases hs : seek B 63 last with _ | i
        · obtain ⟨q1, q2, q3⟩ := asg_full B last hs
          have hL : asgL B last = last := by unfold asgL; rw [hs]
          go_wp2_with fail
          refine (assign_any _ hPa).mono ?_
          rintro e w2 ⟨rfl, hP2, o2⟩
          have hM2 := hMa.keep o2 n1
          have b2 := hba.trans (o2.below hba.size hgs)
          rw [q2]
          rw [q3, hL] at hP2
          have hI : PUInv w g b q (.int .i64 ((k : Int) + 1)) w2 := ⟨k + 1, by go_num, by omega, B, last, hP2, ⟨nm, hM2, by omega⟩, b2⟩
          clear hPa hMa hba ha hP2 hM2 b2 o2 q1 q2 q3 hL hs
          go_wp2
          go_roundw
          case rel => exact hI
          case measure => simp [intOf]; omega
        · obtain ⟨q0, q1, q2, q3, q4, q5⟩ := asg_some B last i hs
          have hq1 : hasB B (64 + (i : Int)) = false := by rw [hasB_at B i q0]; exact q1
          have hww : (Lit.int .i64 (64 + (i : Int))).wf = true := WalkArith.wf_i64 (by omega)
          go_wp2_with fail
          refine (assign_any _ hPa).mono ?_
          rintro e w2 ⟨rfl, hP2, o2⟩
          have hM2 := hMa.keep o2 n1
          have b2 := hba.trans (o2.below hba.size hgs)
          have hlk := hM2.look (64 + (i : Int)) hww
          have i0 : (64 : Int) ≤ 64 + (i : Int) := by omega
          have i1 : 64 + (i : Int) ≤ 126 := by omega
          rw [q3, q4]
          rw [q5] at hP2
          rw [hq1] at hlk
          have HM2 := Lib.hid hM2
          have HP2 := Lib.hid hP2
          have HB2 := Lib.hid b2
          have HQ := Lib.hid (And.intro q0 (And.intro q1 hq1))
          clear hPa hMa hba ha hP2 hM2 b2 o2 q0 q1 q2 q3 q4 q5 hs hq1
          go_wp2_with (at_mapUpdate; refine wpList_store_on rfl _ _ _ rfl HM2.out (64 + (i : Int)) rfl rfl rfl hww HQ.out.2.2 ?c1 ?c2)
          case c1 => unfold maxLen; omega
          case c2 =>
            intro w3 hM3 o3
            have hI : PUInv w g b q (.int .i64 ((k : Int) + 1)) w3 := by
              refine ⟨k + 1, by go_num, by omega, orB B i, _, HP2.out.keep o3 n2, ⟨nm + 1, ?_, by omega⟩, HB2.out.trans (o3.below HB2.out.size hbs)⟩
              rw [hasB_or B _ HQ.out.1, cnt_or B _ HQ.out.1 HQ.out.2.1]
              exact hM3
            clear hM3 o3
            go_wp2
            go_roundw
            case rel => exact hI
            case measure => simp [intOf]; omega
    · have hnm2 : nm ≤ 60 + cntB B := by omega
      have hkq : k ≤ 60 := by omega
      go_wp2_with fail
      go_loopg [] (63 - cntB B) (fun kq wr => ∃ B last, PoolAt wr g B last ∧ (∃ n, On wr b (hasB B) (cntB B) n ∧ n ≤ 60 + cntB B) ∧ Below w.heap.size w wr ∧ kq = 63 - cntB B)
      case atStart => exact ⟨B, last, hP, ⟨nm, hM, hnm2⟩, hb, rfl⟩
      case round =>
        clear hP hM hb hnm2
        obtain ⟨B, last, hP, ⟨nm, hM, hnm⟩, hb, hgk⟩ := hrel
        have hcl := listB_length B 63
        have hcb : cntB B ≤ 63 := hcl
        have hlen := hM.len 3
        rcases hs : seek B 63 last with _ | i
        · obtain ⟨q1, q2, q3⟩ := asg_full B last hs
          have hL : asgL B last = last := by unfold asgL; rw [hs]
          rw [q1] at hlen
          clear hgk hcl
          go_wp2_with fail
          refine (assign_any _ hP).mono ?_
          rintro e w2 ⟨rfl, hP2, o2⟩
          have b2 := hb.trans (o2.below hb.size hgs)
          rw [q2]
          rw [q3, hL] at hP2
          clear hP hM hb o2 q2 q3 hL hs hlen
          go_wp2_with fail
          refine (pwakes_any _).mono ?_
          rintro e w3 ⟨rfl, b3⟩
          have hP3 := hP2.keep (Only.of_below b3 []) (by simp)
          have B3 := b2.trans (b3.mono b2.size)
          go_wp2_with fail
          refine (list_any _ hP3).mono ?_
          rintro e w4 ⟨A4, c4, rfl, _, _, b4⟩
          have B4 := B3.trans (b4.mono B3.size)
          have hcl : (listB B 63).length = 63 := q1
          rw [hcl]
          clear hP2 b2 b3 hP3 B3 b4 hcl q1
          go_wp2
          go_ret
          exact ⟨rfl, B4⟩
        · obtain ⟨q0, q1, q2, q3, q4, q5⟩ := asg_some B last i hs
          have hq1 : hasB B (64 + (i : Int)) = false := by rw [hasB_at B i q0]; exact q1
          have hww : (Lit.int .i64 (64 + (i : Int))).wf = true := WalkArith.wf_i64 (by omega)
          have q2' : (cntB B : Int) < 63 := by omega
          have HGK := Lib.hid hgk
          clear hgk
          go_wp2_with fail
          refine (assign_any _ hP).mono ?_
          rintro e w2 ⟨rfl, hP2, o2⟩
          have hM2 := hM.keep o2 n1
          have b2 := hb.trans (o2.below hb.size hgs)
          have hlk := hM2.look (64 + (i : Int)) hww
          rw [q3, q4]
          rw [q5] at hP2
          rw [hq1] at hlk
          have HM2 := Lib.hid hM2
          have HP2 := Lib.hid hP2
          have HB2 := Lib.hid b2
          have HQ := Lib.hid (And.intro q0 (And.intro q1 (And.intro hq1 q2)))
          clear hP hM hb hP2 hM2 b2 o2 q0 q1 q2 q3 q4 q5 hs hq1 hlen
          go_wp2_with (at_mapUpdate; refine wpList_store_on rfl _ _ _ rfl HM2.out (64 + (i : Int)) rfl rfl rfl hww HQ.out.2.2.1 ?c1 ?c2)
          case c1 => unfold maxLen; omega
          case c2 =>
            intro w3 hM3 o3
            have hcnt := cnt_or B _ HQ.out.1 HQ.out.2.1
            have hI : ∃ B' last', PoolAt w3 g B' last' ∧ (∃ n, On w3 b (hasB B') (cntB B') n ∧ n ≤ 60 + cntB B') ∧ Below w.heap.size w w3 ∧ 63 - cntB (orB B i) = 63 - cntB B' := by
              refine ⟨orB B i, _, HP2.out.keep o3 n2, ⟨nm + 1, ?_, by omega⟩, HB2.out.trans (o3.below HB2.out.size hbs), rfl⟩
              rw [hasB_or B _ HQ.out.1, hcnt]
              exact hM3
            have hmeas : 63 - cntB (orB B i) < gk := by have := HGK.out; have := HQ.out.2.2.2; omega
            have HM := Lib.hid hmeas
            clear hM3 o3 hcnt hmeas
            go_wp2
            go_roundg (63 - cntB (orB B i))
            case measure => exact HM.out
            case rel => exact hI
end Go.Proofs.Ythepgcmbaljbhaa.Mine
