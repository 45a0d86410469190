/- A link's queue and numbers while no payload is there, the writing methods: what they store lies there already. -/
import Derived.Test.YtlfcfmdblmedcaaGreatDoorMQueue
import Derived.Test.YtlfcfmdblmedcaaGreatDoorMSeq
import Derived.BigRegion
import Derived.RegionTactic
namespace Go.Proofs.YtlfcfmdblmedcaaGreatDoor.Mine
open Go.RowKit Go.Proofs.YtlfcfmdblmedcaaGreatDoorW.PrintWords
attribute [local go_sem] max_int min_int max_of_two min_of_two

theorem FZ.drew {w : World} {fl q : Nat} {k most : Int} (h : FZ w fl q k most) (n : Nat) : FZ (w.drewN n) fl q k most := h.move rfl rfl
theorem FZ.qs1 {w : World} {fl q : Nat} {k most : Int} (h : FZ w fl q k most) : w.setCell ⟨q, 1, none⟩ (.slice none 0 0) = w := same_set h.que rfl
theorem FZ.qs2 {w : World} {fl q : Nat} {k most : Int} (h : FZ w fl q k most) : w.setCell ⟨q, 2, none⟩ (.int .i64 0) = w := same_set h.que rfl
theorem FZ.fs0 {w : World} {fl q : Nat} {k most : Int} (h : FZ w fl q k most) : w.setCell ⟨fl, 0, none⟩ (.int .i64 0) = w := same_set h.box rfl
theorem FZ.fs1 {w : World} {fl q : Nat} {k most : Int} (h : FZ w fl q k most) : w.setCell ⟨fl, 1, none⟩ (.int .i64 0) = w := same_set h.box rfl
theorem FZ.fs2 {w : World} {fl q : Nat} {k most : Int} (h : FZ w fl q k most) : w.setCell ⟨fl, 2, none⟩ (.int .i64 0) = w := same_set h.box rfl
theorem FZ.fs3 {w : World} {fl q : Nat} {k most : Int} (h : FZ w fl q k most) : w.setCell ⟨fl, 3, none⟩ (.bool false) = w := same_set h.box rfl
theorem FZ.fs4 {w : World} {fl q : Nat} {k most : Int} (h : FZ w fl q k most) : w.setCell ⟨fl, 4, none⟩ (.bool false) = w := same_set h.box rfl
theorem FZ.fs5 {w : World} {fl q : Nat} {k most : Int} (h : FZ w fl q k most) : w.setCell ⟨fl, 5, none⟩ (.bool false) = w := same_set h.box rfl
theorem back_z (fl q : Nat) (k most : Int) (w : World) (h : FZ w fl q k most) :
    Calls Tryz.prog 105 #[.pointer (some ⟨q, 0, none⟩), .int .i64 0] w fun e w' => e = .returned (.bool true) ∧ ∃ n, w' = w.drewN n := by
  obtain ⟨c0, c1, c2⟩ := h.cells
  have f2 := at_frozen h.que 2
  go_enter Tryz.func105, Tryz.ntmps105
  go_wp2
  rw [h.qs2]
  go_ret
  exact ⟨rfl, 0, rfl⟩
theorem qclear_z (fl q : Nat) (k most : Int) (w : World) (h : FZ w fl q k most) :
    Calls Tryz.prog 90 #[.pointer (some ⟨q, 0, none⟩)] w fun e w' => e = .returned (.int .i64 0) ∧ ∃ n, w' = w.drewN n := by
  obtain ⟨c0, c1, c2⟩ := h.cells
  have f2 := at_frozen h.que 2
  have f1 := at_frozen h.que 1
  go_enter Tryz.func90, Tryz.ntmps90
  go_wp2
  rw [h.qs1, h.qs2]
  go_ret
  exact ⟨rfl, 0, rfl⟩
theorem reset_z (fl q : Nat) (k most : Int) (w : World) (h : FZ w fl q k most) :
    Calls Tryz.prog 93 #[.pointer (some ⟨fl, 0, none⟩)] w fun e w' => e = .returned (.tuple #[]) ∧ ∃ n, w' = w.drewN n := by
  obtain ⟨d0, d1, d2, d3, d4, d5, d6, d7⟩ := h.fells
  have f0 := at_frozen h.box 0
  have f1 := at_frozen h.box 1
  have f2 := at_frozen h.box 2
  have f3 := at_frozen h.box 3
  have f4 := at_frozen h.box 4
  have f5 := at_frozen h.box 5
  go_enter Tryz.func93, Tryz.ntmps93
  go_wp2_with (go_at_call 105; refine (back_z fl q k most _ h).mono ?_; rintro e w1 ⟨rfl, n, rfl⟩)
  have h' := h.drew n
  rw [h'.fs0, h'.fs1, h'.fs2, h'.fs3, h'.fs4, h'.fs5]
  go_end0
  exact ⟨rfl, n, rfl⟩
theorem clear_z (fl q : Nat) (k most : Int) (w : World) (h : FZ w fl q k most) :
    Calls Tryz.prog 65 #[.pointer (some ⟨fl, 0, none⟩)] w fun e w' => e = .returned (.int .i64 0) ∧ ∃ n, w' = w.drewN n := by
  obtain ⟨d0, d1, d2, d3, d4, d5, d6, d7⟩ := h.fells
  have f0 := at_frozen h.box 0
  go_enter Tryz.func65, Tryz.ntmps65
  go_wp2_with fail
  rw [h.fs0]
  refine (qclear_z fl q k most _ h).mono ?_
  rintro e w1 ⟨rfl, n, rfl⟩
  go_wp2
  go_ret
  exact ⟨rfl, n, rfl⟩
theorem done_z (fl q : Nat) (k most : Int) (w : World) (h : FZ w fl q k most) :
    Calls Tryz.prog 109 #[.pointer (some ⟨q, 0, none⟩), .int .i64 0] w fun e w' => e = .returned (.bool true) ∧ ∃ n, w' = w.drewN n := by
  obtain ⟨c0, c1, c2⟩ := h.cells
  have f1 := at_frozen h.que 1
  have f2 := at_frozen h.que 2
  go_enter Tryz.func109, Tryz.ntmps109
  go_wp2
  go_region
  all_goals (
    rw [h.qs1, h.qs2]
    go_wp2
    go_ret
    exact ⟨rfl, 1, rfl⟩)
theorem ack_z (fl q : Nat) (k most : Int) (w : World) (h : FZ w fl q k most) :
    Calls Tryz.prog 95 #[.pointer (some ⟨fl, 0, none⟩), .int .i64 0] w fun e w' => e = .returned (.tuple #[.int .i64 0, .int .i64 0]) ∧ ∃ n, w' = w.drewN n := by
  obtain ⟨d0, d1, d2, d3, d4, d5, d6, d7⟩ := h.fells
  have f1 := at_frozen h.box 1
  go_enter Tryz.func95, Tryz.ntmps95
  have e1 : ∀ n, (w.drewN n).setCell ⟨fl, 1, none⟩ (.int .i64 0) = w.drewN n := fun n => (h.drew n).fs1
  go_wp2
  go_quiet ((go_at_call 107; exact Calls.quiet_of_same ((valid_any _ _ _ _).mono fun _ _ ⟨a, b⟩ => ⟨a, b.symm⟩)))
  go_wp2_with (first | (go_at_call 108; refine (sub_any _ _ _).mono ?_; rintro e w1 ⟨rfl, rfl⟩) | (go_at_call 106; refine (norm_any _ _).mono ?_; rintro e w1 ⟨rfl, rfl⟩) | (go_at_call 109; refine (done_z fl q k most _ (h.drew _)).mono ?_; rintro e w1 ⟨rfl, n, rfl⟩))
  go_ret2
  exact ⟨rfl, _, rfl⟩
end Go.Proofs.YtlfcfmdblmedcaaGreatDoor.Mine
