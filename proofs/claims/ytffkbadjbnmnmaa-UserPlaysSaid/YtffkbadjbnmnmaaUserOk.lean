/- What each act of a user may do: plain law, no program. -/
import Derived.Test.YtffkbadjbnmnmaaUserDeaf
namespace Go.Proofs.Ytffkbadjbnmnmaa.Mine
open Go.RowKit

def EfOk (was is : US) (x : Ef) : Prop :=
  (x.kind = 1 → was.tei < 0 ∧ is.tei = x.tei ∧ 64 ≤ x.tei ∧ x.tei ≤ 126) ∧ (x.kind = 2 → was.tei = x.tei ∧ is.tei < 0) ∧
    (x.kind = 0 → ¬ (x.type = 2 ∨ x.type = 3 ∨ x.type = 4 ∨ x.type = 6) ∧ (x.type = 1 ∨ x.ai = was.tei) ∧ 0 ≤ x.ri ∧ x.ri ≤ 65535)
def DidOk (s : US) (d : Did) : Prop := (∀ x ∈ d.efs, EfOk s d.st x) ∧ (d.err ≠ 0 → d.efs = [] ∧ d.st = s) ∧ d.efs.length ≤ 2

theorem ok_none (s : US) (p : Pn) (e : Int) : DidOk s ⟨[], e, s, p⟩ := ⟨fun x hx => by simp at hx, fun _ => ⟨rfl, rfl⟩, by simp⟩
theorem ok_ask (s : US) (D : Dr) (p : Pn) (n : Int) : DidOk s ⟨(uAsk D p n).1, 0, (uAsk D p n).2.1, (uAsk D p n).2.2⟩ := by
  have h := dnxt_range D p
  refine ⟨fun x hx => ?_, fun h => absurd rfl h, by simp [uAsk]⟩
  simp [uAsk] at hx
  rcases hx with rfl | rfl
  · exact ⟨fun h => by simp at h, fun h => by simp at h, fun _ => ⟨by simp, Or.inl rfl, h.1, h.2⟩⟩
  · exact ⟨fun h => by simp at h, fun h => by simp at h, fun h => by simp at h⟩
theorem ok_lose (s : US) (p : Pn) : DidOk s ⟨(uLose s).1, 0, (uLose s).2, p⟩ := by
  refine ⟨fun x hx => ?_, fun h => absurd rfl h, by simp [uLose]⟩
  simp [uLose] at hx
  subst hx
  exact ⟨fun h => by simp at h, fun _ => ⟨rfl, by simp [uLose, uIdle]⟩, fun h => by simp at h⟩
theorem ok_other (s t : US) (p : Pn) (k : Int) (hk : k = 3 ∨ k = 4 ∨ k = 5) : DidOk s ⟨[⟨k, 0, 0, 0, 0⟩], 0, t, p⟩ := by
  refine ⟨fun x hx => ?_, fun h => absurd rfl h, by simp⟩
  simp at hx
  subst hx
  exact ⟨fun h => by simp at h; omega, fun h => by simp at h; omega, fun h => by simp at h; omega⟩
theorem ok_want (D : Dr) (s : US) (p : Pn) : DidOk s (uWant D s p) := by
  unfold uWant
  split
  · exact ok_none _ _ _
  · split
    · exact ok_none _ _ _
    · exact ok_ask _ _ _ _
theorem ok_verify (s : US) (p : Pn) : DidOk s (uVerify s p) := by
  unfold uVerify
  split
  · exact ok_none _ _ _
  · refine ⟨fun x hx => ?_, fun h => absurd rfl h, by simp⟩
    simp at hx
    subst hx
    exact ⟨fun h => by simp at h, fun h => by simp at h, fun _ => ⟨by simp, Or.inr rfl, by simp, by simp⟩⟩
theorem ok_drop (s : US) (p : Pn) : DidOk s (uDrop s p) := by
  unfold uDrop
  split
  · exact ok_other _ _ _ _ (by omega)
  · split
    · exact ok_none _ _ _
    · exact ok_lose _ _
theorem ok_timeout (D : Dr) (most : Int) (s : US) (p : Pn) : DidOk s (uTimeout D most s p) := by
  unfold uTimeout
  split
  · split
    · exact ok_other _ _ _ _ (by omega)
    · exact ok_ask _ _ _ _
  · exact ok_none _ _ _
theorem ok_msg (D : Dr) (s : US) (p : Pn) (t ri ai most : Int) (hw : s.wf most) : DidOk s (uMsg D s p t ri ai) := by
  unfold uMsg
  split
  · exact ok_none _ _ _
  · split
    · rename_i hk
      obtain ⟨h1, h2, h3, h4, h5⟩ := hk
      have ht : s.tei = -1 := by
        unfold US.wf at hw
        rcases hw.2.2.2.2.2.2.2.2.1 with q | q
        · rw [h2] at q; cases q
        · exact q.1
      refine ⟨fun x hx => ?_, fun h => absurd rfl h, by simp⟩
      simp at hx
      rcases hx with rfl | rfl
      · exact ⟨fun h => by simp at h, fun h => by simp at h, fun h => by simp at h⟩
      · exact ⟨fun _ => ⟨by omega, rfl, h4, h5⟩, fun h => by simp at h, fun h => by simp at h⟩
    · split
      · exact ok_lose _ _
      · split
        · have h := dnxt_range D p
          refine ⟨fun x hx => ?_, fun h => absurd rfl h, by simp⟩
          simp at hx
          subst hx
          exact ⟨fun h => by simp at h, fun h => by simp at h, fun _ => ⟨by simp, Or.inr rfl, h.1, h.2⟩⟩
        · exact ok_none _ _ _
end Go.Proofs.Ytffkbadjbnmnmaa.Mine
