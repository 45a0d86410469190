/- PoolLists: the walk of the law, for every script. -/
import Derived.Test.YthepgcmbaljbhaaPoolActs
namespace Go.Proofs.Ythepgcmbaljbhaa.Mine
open Go.RowKit Go.Proofs.YthepgcmbaljbhaaW.PrintWords

attribute [local go_sem] max_int min_int max_of_two min_of_two
set_option maxHeartbeats 1000000 in
set_option maxRecDepth 100000 in
theorem lists_any {A : Option Addr} {c : Nat} {l : List (Int × Int × Int)} (w : World) (hR : ReadsActs w A l) (hc : l.length ≤ c) (hn : l.length ≤ 9223372036854775807) :
    Calls Try.prog 10 #[.slice A l.length c] w fun e w' => e = .returned (.bool true) ∧ Below w.heap.size w w' := by
  obtain ⟨q, hq, hqn, hq60⟩ := cut_at l.length 60 (by decide)
  have hq6 : q ≤ 60 := by omega
  clear hq60
  have hqc : q ≤ c := by omega
  go_enter Try.func10, Try.ntmps10
  go_wp2_with fail
  refine (poolNew_any _).mono ?_
  rintro e w1 ⟨g, rfl, hg, h1, b1⟩
  have hgs : ∀ x, x ∈ [g] → w.heap.size ≤ x := by simpa using hg
  go_wp2_with fail
  clear hq
  go_loopw [16] (fun i wr => ∃ k : Nat, i = .int .i64 k ∧ k ≤ q ∧ (∃ B last, PoolAt wr g B last) ∧ Below w.heap.size w wr) (fun i _ => q - (intOf i).toNat)
  case atStart => exact ⟨0, rfl, by omega, ⟨_, _, h1⟩, b1⟩
  case round =>
    obtain ⟨k, rfl, hk, ⟨B, last, hP⟩, hb⟩ := hrel
    clear h1 b1
    by_cases hlt : k < q
    · obtain ⟨ad, rfl, hcell⟩ := hR (by omega)
      obtain ⟨c0, c1, c2⟩ := hcell k (by omega)
      obtain ⟨⟨d, t, o⟩, hx⟩ : ∃ x, l.getD k (0, 0, 0) = x := ⟨_, rfl⟩
      rw [hx] at c0 c1 c2
      simp only at c0 c1 c2
      rw [add_field _ _ _ (by decide)] at c1 c2
      have e0 := (hb.cell (World.block_lt_of_cell? w _ c0)).trans c0
      have e1 := (hb.cell (World.block_lt_of_cell? w _ c1)).trans c1
      have e2 := (hb.cell (World.block_lt_of_cell? w _ c2)).trans c2
      have HR := Lib.hid hR
      clear hx hcell hR c0 c1 c2
      have hPa := hP.keep ((Only.refl [] wr).alloc (.cells #[.int .i64 d, .int .i64 t, .int .i64 o] 40)) (by simp)
      have hba := hb.alloc hb.size (.cells #[.int .i64 d, .int .i64 t, .int .i64 o] 40)
      clear hP hb
      rcases (show (Int.tmod d 4 == 1) = true ∨ ((Int.tmod d 4 == 1) = false ∧ (Int.tmod d 4 == 2) = true) ∨ ((Int.tmod d 4 == 1) = false ∧ (Int.tmod d 4 == 2) = false) by
        cases h1 : (Int.tmod d 4 == 1) <;> cases h2 : (Int.tmod d 4 == 2) <;> simp_all) with hd | ⟨hd, hd2⟩ | ⟨hd, hd2⟩
      all_goals
        go_wp2_with fail
        first
          | (go_at_call 20; refine (claim_any _ _ hPa).mono ?_; rintro e w2 ⟨rfl, hP2, o2⟩)
          | (go_at_call 22; refine (free_any _ _ hPa).mono ?_; rintro e w2 ⟨rfl, hP2, o2⟩)
          | (go_at_call 24; refine (assign_any _ hPa).mono ?_; rintro e w2 ⟨rfl, hP2, o2⟩)
        have b2 := hba.trans (o2.below hba.size hgs)
        obtain ⟨B2, last2, hP2⟩ : ∃ B2 last2, PoolAt w2 g B2 last2 := ⟨_, _, hP2⟩
        clear hba o2 hPa
        go_wp2_with fail
        refine (list_any _ hP2).mono ?_
        rintro e w3 ⟨A2, c2, rfl, hL, hP3, b3⟩
        have b4 := b2.trans (b3.mono b2.size)
        have hlen := listB_length B2 63
        obtain ⟨hlc, hL⟩ := hL
        clear b2 b3
        have hyes := fun T h => cnt_yes B2 T h
        have hall := cnt_all B2
        generalize listB B2 63 = L at hlen hlc hL hyes hall ⊢
        have HY := Lib.hid hyes
        have HAL := Lib.hid hall
        clear hyes hall
        have HP3 := Lib.hid hP3
        have HL := Lib.hid hL
        clear hP2 hP3 hL
        go_wp2_with fail
        go_loopw [7, 8] (fun n t wr => ∃ T : Int, t = .int .i64 T ∧ -1 ≤ T ∧ T ≤ 130 ∧ n = .int .i64 (cntT B2 T) ∧ ∃ m, wr = w3.drewN m) (fun _ t _ => (130 - intOf t).toNat)
        case atStart => exact ⟨-1, rfl, by omega, by omega, rfl, 0, rfl⟩
        case round =>
          obtain ⟨T, rfl, hT0, hT1, rfl, m, rfl⟩ := hrel
          have hPm := HP3.out.keep ((Only.refl [] w3).drewN m) (by simp)
          by_cases hTt : T < 130
          · have hq := has_any T _ hPm
            cases hh : hasB B2 T
            · rw [hh] at hq
              have hcn := Lib.hid (cnt_no B2 T hh)
              clear hh hPm
              go_wp2_with fail
              refine hq.mono ?_
              rintro e w5 ⟨rfl, m2, rfl⟩
              clear hq
              go_wp2
              go_roundw
              case rel => exact ⟨T + 1, rfl, by omega, by omega, by rw [hcn.out], m + m2, rfl⟩
              case measure => simp [intOf]; omega
            · rw [hh] at hq
              obtain ⟨hc1, hc2, hc3⟩ := HY.out T hh
              clear hh hPm
              obtain ⟨r, rfl, _, _, hrow⟩ : ∃ r, A2 = some ⟨r, 0, none⟩ ∧ w2.heap.size ≤ r ∧ r < w3.heap.size ∧ Row w3 r 0 L := by
                rcases HL.out with h | h
                · rw [h] at hc2; simp at hc2
                · exact h
              have x0 := hrow _ hc2
              rw [hc1, Nat.zero_add] at x0
              have hc3' := Lib.hid hc3
              clear hrow hc3 hc1
              obtain ⟨y, hy⟩ : ∃ y, cntT B2 T = y := ⟨_, rfl⟩
              rw [hy] at x0 hc2 hc3'
              have hy' := Lib.hid hy
              rw [hy]
              clear hy
              have hc2' : (y : Int) < L.length := by omega
              go_wp2_with fail
              refine hq.mono ?_
              rintro e w5 ⟨rfl, m2, rfl⟩
              clear hq
              have hg1 : decide (L.length ≤ y) = false := decide_eq_false (by omega)
              have hg2 : decide ((L.length : Int) ≤ (y : Int)) = false := decide_eq_false (by omega)
              go_wp2
              go_roundw
              case rel => exact ⟨T + 1, rfl, by omega, by omega, by rw [hc3'.out]; go_num, m + m2, rfl⟩
              case measure => simp [intOf]; omega
          · obtain rfl : T = 130 := by omega
            have hcn := HAL.out
            have hI : Below w.heap.size w (w3.drewN m) := b4.trans (((Only.refl [] w3).drewN m).below b4.size (by simp))
            clear hPm b4
            rw [hcn]
            clear hcn
            go_wp2
            go_roundw
            case rel => exact ⟨k + 1, by go_num, by omega, ⟨B2, last2, HP3.out.keep ((Only.refl [] w3).drewN m) (by simp)⟩, hI⟩
            case measure => simp [intOf]; omega
    · go_wp2_with fail
      refine (pwakes_any _).mono ?_
      rintro e w2 ⟨rfl, b2⟩
      go_wp2
      go_ret
      exact ⟨rfl, hb.trans (b2.mono hb.size)⟩
end Go.Proofs.Ythepgcmbaljbhaa.Mine
