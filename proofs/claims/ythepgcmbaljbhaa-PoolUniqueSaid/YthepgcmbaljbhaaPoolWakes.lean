/- The contract of layer 12's wakes, and of a nil pool's List. -/
import Derived.Test.YthepgcmbaljbhaaPoolList
namespace Go.Proofs.Ythepgcmbaljbhaa.Mine
open Go.RowKit Go.Proofs.YthepgcmbaljbhaaW.PrintWords

set_option maxHeartbeats 1000000 in
theorem pwakes_any (w : World) :
    Calls Try.prog 19 #[] w fun e w' => e = .returned (.bool true) ∧ Below w.heap.size w w' := by
  go_enter Try.func19, Try.ntmps19
  go_wp2_with fail
  refine (poolNew_any _).mono ?_
  rintro e w1 ⟨g, rfl, hg, h1, b1⟩
  have hgs : ∀ x, x ∈ [g] → w.heap.size ≤ x := by simpa using hg
  go_wp2_with fail
  refine (assign_any _ h1).mono ?_
  rintro e w2 ⟨rfl, h2, o2⟩
  have e1 : asgT 0 62 = 64 := by decide
  have e2 : asgE 0 62 = 0 := by decide
  have e3 : asgB 0 62 = 1 := by decide
  have e4 : asgL 0 62 = 0 := by decide
  rw [e1, e2]
  rw [e3, e4] at h2
  have b2 := b1.trans (o2.below b1.size hgs)
  clear e1 e2 e3 e4 b1 o2 h1
  go_wp2_with fail
  refine (assign_any _ h2).mono ?_
  rintro e w3 ⟨rfl, h3, o3⟩
  have e1 : asgT 1 0 = 65 := by decide
  have e2 : asgE 1 0 = 0 := by decide
  have e3 : asgB 1 0 = 3 := by decide
  have e4 : asgL 1 0 = 1 := by decide
  rw [e1, e2]
  rw [e3, e4] at h3
  have b3 := b2.trans (o3.below b2.size hgs)
  clear e1 e2 e3 e4 b2 o3 h2
  go_wp2_with fail
  refine (free_any 64 _ h3).mono ?_
  rintro e w4 ⟨rfl, h4, o4⟩
  have e1 : hasB 3 64 = true := by decide
  have e3 : freeB 3 64 = 2 := by decide
  rw [e1]
  rw [e3] at h4
  have b4 := b3.trans (o4.below b3.size hgs)
  clear e1 e3 b3 o4 h3
  go_wp2_with fail
  refine (assign_any _ h4).mono ?_
  rintro e w5 ⟨rfl, h5, o5⟩
  have e1 : asgT 2 1 = 66 := by decide
  have e2 : asgE 2 1 = 0 := by decide
  rw [e1, e2]
  have b5 := b4.trans (o5.below b4.size hgs)
  clear e1 e2 b4 o5 h4 h5
  go_wp2
  go_ret
  exact ⟨rfl, b5⟩

theorem list_none (w : World) :
    Calls Try.prog 26 #[.pointer none] w fun e w' => e = .returned (.slice none 0 0) ∧ Below w.heap.size w w' := by
  go_enter Try.func26, Try.ntmps26
  go_wp2
  go_loopw [3, 4] (fun v i wr => v = .slice none 0 0 ∧ ∃ k : Nat, i = .int .i64 (64 + (k : Int)) ∧ k ≤ 63 ∧ Below w.heap.size w wr) (fun _ i _ => 127 - (intOf i).toNat)
  case atStart => exact ⟨rfl, 0, rfl, by omega, Below.refl _ _⟩
  case round =>
    obtain ⟨rfl, k, rfl, hk, hb⟩ := hrel
    by_cases hlt : k < 63
    · have hI : ∀ n, Below w.heap.size w (wr.drewN n) := fun n => ((Only.refl [] wr).drewN n).below hb.size (by simp) |> hb.trans
      clear hb
      go_wp2_with (go_at_call 28; refine (has_none _ _).mono ?_; rintro e w' ⟨rfl, n, rfl⟩)
      go_roundw
      case rel => exact ⟨rfl, k + 1, by go_num, by omega, hI _⟩
      case measure => simp [intOf]; omega
    · go_wp2
      go_ret
      exact ⟨rfl, hb⟩
end Go.Proofs.Ythepgcmbaljbhaa.Mine
