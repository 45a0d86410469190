/- The contracts of Timeout, New, Message. -/
import Derived.Test.YtlfcfmdblmedcaaDoorSUserA
import Derived.RegionTactic
import Derived.Deep.QuietTactic
import Derived.BigQuiet
import Derived.Deep.RegionWith
namespace Go.Proofs.YtlfcfmdblmedcaaDoor.Mine
open Go.RowKit Go.Proofs.YtlfcfmdblmedcaaDoorW.PrintWords
attribute [local go_sem] max_int min_int max_of_two min_of_two

theorem UAt.drewN {w : World} {g : Nat} {D : Dr} {most : Int} {s : US} {p : Pn} (h : UAt w g D most s p) (n : Nat) : UAt (w.drewN n) g D most s p :=
  h.keep ((Only.refl [] w).drewN n) (fun x hx => by simp at hx)

/-- A message that comes. -/
def uMine (s : US) (ai : Int) : Prop := s.tei ≠ -1 ∧ (ai = s.tei ∨ ai = 127)
instance (s : US) (ai : Int) : Decidable (uMine s ai) := by unfold uMine; infer_instance
def uTakes (s : US) (t ri ai : Int) : Prop := t = 2 ∧ s.asking = true ∧ ri = s.ri ∧ 64 ≤ ai ∧ ai ≤ 126
instance (s : US) (t ri ai : Int) : Decidable (uTakes s t ri ai) := by unfold uTakes; infer_instance
def uMsg (D : Dr) (s : US) (p : Pn) (t ri ai : Int) : Did :=
  if putE t ri ai ≠ 0 then ⟨[], 0, s, p⟩
  else if uTakes s t ri ai then ⟨[⟨5, 0, 0, 0, 0⟩, ⟨1, 0, 0, 0, ai⟩], 0, ⟨ai, false, 0, 0⟩, p⟩
  else if uMine s ai ∧ (t = 2 ∧ ai = s.tei ∨ t = 6) then ⟨(uLose s).1, 0, (uLose s).2, p⟩
  else if uMine s ai ∧ t = 4 then ⟨[⟨0, 5, (dnxt D p).1, s.tei, 0⟩], 0, s, (dnxt D p).2⟩
  else ⟨[], 0, s, p⟩

set_option maxHeartbeats 1000000 in
theorem new_any {D : Dr} {p : Pn} (n : Int) (w : World) (h : Sr w w.heap.size D p) :
    Calls Tryd.prog 16 #[.int .i64 n, srcV D] w fun e w' => e = .returned (.pointer (some ⟨w.heap.size, 0, none⟩)) ∧ UAt w' w.heap.size D (max 1 (min n 32)) uIdle p ∧ Below w.heap.size w w' := by
  have H := Lib.hid h
  clear h
  go_enter Tryd.func16, Tryd.ntmps16
  go_wp2
  all_goals go_ret
  all_goals
    refine ⟨rfl, ⟨?_, ?_, ?_⟩, (Below.refl _ _).alloc (Nat.le_refl _) _⟩
    · rw [at_new]
      first
        | (rw [show max 1 (min n 32) = 32 by omega]; rfl)
        | (rw [show max 1 (min n 32) = n by omega]; rfl)
        | (rw [show max 1 (min n 32) = 1 by omega]; rfl)
    · refine H.out.keep ((Only.refl [] w).alloc _) (fun x hx => by simp at hx)
    · unfold US.wf uIdle
      simp
      omega

theorem msg_cells {w w1 : World} {t ri ai : Int} (b1 : Below (w.alloc (.cells #[.int .i64 t, .int .i64 ri, .int .i64 ai] 73)).heap.size (w.alloc (.cells #[.int .i64 t, .int .i64 ri, .int .i64 ai] 73)) w1) :
    w1.cell? ⟨w.heap.size, 0, none⟩ = some (.int .i64 t) ∧ w1.cell? ⟨w.heap.size, 1, none⟩ = some (.int .i64 ri) ∧ w1.cell? ⟨w.heap.size, 2, none⟩ = some (.int .i64 ai) := by
  have hm := at_new w (.cells #[.int .i64 t, .int .i64 ri, .int .i64 ai] 73)
  have hg : w1.heap[w.heap.size]? = _ := (b1.block w.heap.size (lt_of_at hm)).trans hm
  have c0 := at_cell hg 0
  have c1 := at_cell hg 1
  have c2 := at_cell hg 2
  simp at c0 c1 c2
  exact ⟨c0, c1, c2⟩

theorem put_msg (t ri ai : Int) (w : World) :
    Calls Tryd.prog 45 #[.agg #[.int .i64 t, .int .i64 ri, .int .i64 ai]] (w.alloc (.cells #[.int .i64 t, .int .i64 ri, .int .i64 ai] 73)) fun e w' => ∃ x, e = .returned (.tuple #[.string x, .int .i64 (putE t ri ai)]) ∧ Below w.heap.size w w' ∧ w.heap.size < w'.heap.size ∧
      w'.cell? ⟨w.heap.size, 0, none⟩ = some (.int .i64 t) ∧ w'.cell? ⟨w.heap.size, 1, none⟩ = some (.int .i64 ri) ∧ w'.cell? ⟨w.heap.size, 2, none⟩ = some (.int .i64 ai) := by
  refine (put_any t ri ai _).mono ?_
  rintro e w1 ⟨x, rfl, b1⟩
  obtain ⟨m0, m1, m2⟩ := msg_cells b1
  exact ⟨x, rfl, ((Below.refl w.heap.size w).alloc (Nat.le_refl _) _).trans (b1.mono (by simp)), by have := b1.size; simp at this; omega, m0, m1, m2⟩

end Go.Proofs.YtlfcfmdblmedcaaDoor.Mine
