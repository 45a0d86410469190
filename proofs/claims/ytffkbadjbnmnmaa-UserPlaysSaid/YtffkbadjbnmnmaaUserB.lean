/- The contracts of Timeout, New, Message. -/
import Derived.Test.YtffkbadjbnmnmaaUserA
import Derived.RegionTactic
import Derived.Deep.QuietTactic
import Derived.BigQuiet
import Derived.Deep.RegionWith
namespace Go.Proofs.Ytffkbadjbnmnmaa.Mine
open Go.RowKit Go.Proofs.YtffkbadjbnmnmaaW.PrintWords
attribute [local go_sem] max_int min_int max_of_two min_of_two

theorem UAt.drewN {w : World} {g : Nat} {D : Dr} {most : Int} {s : US} {p : Pn} (h : UAt w g D most s p) (n : Nat) : UAt (w.drewN n) g D most s p :=
  h.keep ((Only.refl [] w).drewN n) (fun x hx => by simp at hx)

set_option maxHeartbeats 1000000 in
theorem timeout_any {g : Nat} {D : Dr} {most : Int} {s : US} {p : Pn} (w : World) (h : UAt w g D most s p) :
    Calls Try.prog 16 #[.pointer (some ⟨g, 0, none⟩)] w fun e w' => ∃ v, e = .returned v ∧ Done w g D most (uTimeout D most s p) v w' := by
  obtain ⟨c0, c1, c2, c3, c4, -⟩ := h.cells
  obtain ⟨f0, f1, f2, f3⟩ := h.free
  rcases ha : s.asking with _ | _
  · rw [ha] at c1
    have hd : uTimeout D most s p = ⟨[], 0, s, p⟩ := by unfold uTimeout; simp [ha]
    rw [hd]
    have H := Lib.hid h
    clear h hd ha
    go_enter Try.func16, Try.ntmps16
    go_wp2
    go_ret
    exact ⟨_, rfl, Efs.nil _ _, H.out, Only.refl _ _⟩
  · rw [ha] at c1
    by_cases hm : s.tries = most
    · have hd : uTimeout D most s p = ⟨[⟨3, 0, 0, 0, 0⟩], 0, uIdle, p⟩ := by unfold uTimeout; simp [ha, hm]
      rw [hd]
      rw [hm] at c3
      have H := Lib.hid h
      clear h hd ha hm
      go_enter Try.func16, Try.ntmps16
      go_wp2
      go_quiet (fail)
      go_wp2
      go_ret
      have k := ((Only.refl (uset g D) w).drewN nq).put4 (.int .i64 (-1)) (.bool false) (.int .i64 0) (.int .i64 0)
      refine ⟨_, rfl, Efs.one _ _ ⟨3, 0, 0, 0, 0⟩ k.size (by simp), ?_, k.alloc _⟩
      exact ((H.out.drewN nq).set _ (wf_idle H.out.2.2)).below ((Below.refl _ _).alloc (Nat.le_refl _) _)
    · have hd : uTimeout D most s p = ⟨(uAsk D p (s.tries + 1)).1, 0, (uAsk D p (s.tries + 1)).2.1, (uAsk D p (s.tries + 1)).2.2⟩ := by unfold uTimeout; simp [ha, hm]
      rw [hd]
      have hw := h.2.2
      have H := Lib.hid h
      have hr : 1 ≤ s.tries + 1 ∧ s.tries + 1 ≤ most := by unfold US.wf at hw; omega
      have h0 : 0 ≤ s.tries ∧ s.tries ≤ 32 := by unfold US.wf at hw; omega
      have hs : wrap64 (s.tries + 1) = s.tries + 1 := w64 _ (by omega) (by omega)
      have HR := Lib.hid hr
      have HS := Lib.hid hs
      have hq : (s.tries == most) = false := by simpa using hm
      clear h hd hw hr ha hs
      go_enter Try.func16, Try.ntmps16
      go_wp2
      go_quiet (fail)
      go_wp2_with (go_at_call 25; refine (ask_any (s.tries + 1) _ (H.out.drewN _) HR.out).mono ?_; rintro e w1 ⟨v, rfl, a1, a2, a3⟩; have A1 := Lib.hid a1; have A2 := Lib.hid a2; have A3 := Lib.hid a3; clear a1 a2 a3)
      go_ret
      exact ⟨v, rfl, A1.out, A2.out, ((Only.refl _ _).drewN nq).trans A3.out⟩

/-- A message that comes. -/
def uMine (s : US) (ai : Int) : Prop := s.tei ≠ -1 ∧ (ai = s.tei ∨ ai = 127)
instance (s : US) (ai : Int) : Decidable (uMine s ai) := by unfold uMine; infer_instance
def uTakes (s : US) (t ri ai : Int) : Prop := t = 2 ∧ s.asking = true ∧ ri = s.ri ∧ 64 ≤ ai ∧ ai ≤ 126
instance (s : US) (t ri ai : Int) : Decidable (uTakes s t ri ai) := by unfold uTakes; infer_instance
def uMsg (D : Dr) (s : US) (p : Pn) (t ri ai : Int) : Did :=
  if putE t ri ai ≠ 0 then ⟨[], 0, s, p⟩
  else if uTakes s t ri ai then ⟨[⟨5, 0, 0, 0, 0⟩, ⟨1, 0, 0, 0, ai⟩], 0, ⟨ai, false, 0, 0⟩, p⟩
  else if uMine s ai ∧ (t = 2 ∧ ai = s.tei ∨ t = 6) then ⟨(uLose s).1, 0, (uLose s).2, p⟩
  else if uMine s ai ∧ t = 4 then ⟨[⟨0, 5, (dnxt D p).1, s.tei, 0⟩], 0, s, (dnxt D p).2⟩
  else ⟨[], 0, s, p⟩

set_option maxHeartbeats 1000000 in
theorem new_any {D : Dr} {p : Pn} (n : Int) (w : World) (h : Sr w w.heap.size D p) :
    Calls Try.prog 9 #[.int .i64 n, srcV D] w fun e w' => e = .returned (.pointer (some ⟨w.heap.size, 0, none⟩)) ∧ UAt w' w.heap.size D (max 1 (min n 32)) uIdle p ∧ Below w.heap.size w w' := by
  have H := Lib.hid h
  clear h
  go_enter Try.func9, Try.ntmps9
  go_wp2
  all_goals go_ret
  all_goals
    refine ⟨rfl, ⟨?_, ?_, ?_⟩, (Below.refl _ _).alloc (Nat.le_refl _) _⟩
    · rw [at_new]
      first
        | (rw [show max 1 (min n 32) = 32 by omega]; rfl)
        | (rw [show max 1 (min n 32) = n by omega]; rfl)
        | (rw [show max 1 (min n 32) = 1 by omega]; rfl)
    · refine H.out.keep ((Only.refl [] w).alloc _) (fun x hx => by simp at hx)
    · unfold US.wf uIdle
      simp
      omega

theorem msg_cells {w w1 : World} {t ri ai : Int} (b1 : Below (w.alloc (.cells #[.int .i64 t, .int .i64 ri, .int .i64 ai] 36)).heap.size (w.alloc (.cells #[.int .i64 t, .int .i64 ri, .int .i64 ai] 36)) w1) :
    w1.cell? ⟨w.heap.size, 0, none⟩ = some (.int .i64 t) ∧ w1.cell? ⟨w.heap.size, 1, none⟩ = some (.int .i64 ri) ∧ w1.cell? ⟨w.heap.size, 2, none⟩ = some (.int .i64 ai) := by
  have hm := at_new w (.cells #[.int .i64 t, .int .i64 ri, .int .i64 ai] 36)
  have hg : w1.heap[w.heap.size]? = _ := (b1.block w.heap.size (lt_of_at hm)).trans hm
  have c0 := at_cell hg 0
  have c1 := at_cell hg 1
  have c2 := at_cell hg 2
  simp at c0 c1 c2
  exact ⟨c0, c1, c2⟩

theorem put_msg (t ri ai : Int) (w : World) :
    Calls Try.prog 26 #[.agg #[.int .i64 t, .int .i64 ri, .int .i64 ai]] (w.alloc (.cells #[.int .i64 t, .int .i64 ri, .int .i64 ai] 36)) fun e w' => ∃ x, e = .returned (.tuple #[.string x, .int .i64 (putE t ri ai)]) ∧ Below w.heap.size w w' ∧ w.heap.size < w'.heap.size ∧
      w'.cell? ⟨w.heap.size, 0, none⟩ = some (.int .i64 t) ∧ w'.cell? ⟨w.heap.size, 1, none⟩ = some (.int .i64 ri) ∧ w'.cell? ⟨w.heap.size, 2, none⟩ = some (.int .i64 ai) := by
  refine (put_any t ri ai _).mono ?_
  rintro e w1 ⟨x, rfl, b1⟩
  obtain ⟨m0, m1, m2⟩ := msg_cells b1
  exact ⟨x, rfl, ((Below.refl w.heap.size w).alloc (Nat.le_refl _) _).trans (b1.mono (by simp)), by have := b1.size; simp at this; omega, m0, m1, m2⟩

end Go.Proofs.Ytffkbadjbnmnmaa.Mine
