/- The contract of Message: a check. -/
import Derived.Test.YtlfcfmdblmedcaaDoorSUserC
namespace Go.Proofs.YtlfcfmdblmedcaaDoor.Mine
open Go.RowKit Go.Proofs.YtlfcfmdblmedcaaDoorW.PrintWords
attribute [local go_sem] max_int min_int max_of_two min_of_two

theorem Sr.all_lt {w : World} {g : Nat} {D : Dr} {p : Pn} (h : Sr w g D p) : ∀ x ∈ dset D, x < w.heap.size := by
  cases D with
  | none => intro x hx; simp [dset] at hx
  | some q => intro x hx; simp [dset] at hx; subst hx; exact h.1.lt
theorem chk_next {w1 : World} {g : Nat} {D : Dr} {most : Int} {s : US} {p : Pn} (h : UAt w1 g D most s p) (cs : Array Value) (t : TypeId) :
    Calls Tryd.prog 42 #[srcV D] (w1.alloc (.cells cs t)).drew fun e w' => e = .returned (.int .i64 (dnxt D p).1) ∧ UAt w' g D most s (dnxt D p).2 ∧ Only (dset D) w1 w' ∧ w'.heap[w1.heap.size]? = some (.cells cs t (0, 0)) := by
  have hu : UAt (w1.alloc (.cells cs t)).drew g D most s p := h.keep (((Only.refl [] w1).alloc _).drew) (fun x hx => by simp at hx)
  refine (snext_any _ hu.2.1).mono ?_
  rintro e w2 ⟨rfl, hs2, k2⟩
  refine ⟨rfl, hu.next hs2 k2, (((Only.refl (dset D) w1).alloc _).drew).trans k2, ?_⟩
  exact k2.at (w := (w1.alloc (.cells cs t)).drew) (at_new w1 (.cells cs t)) (fun hm => by have := h.2.1.all_lt _ hm; omega)

set_option maxHeartbeats 1000000 in
theorem message_check1 {g : Nat} {D : Dr} {most : Int} {s : US} {p : Pn} (ri : Int) (w : World) (h : UAt w g D most s p) (hE : putE 4 ri s.tei = 0) (ht : ¬ s.tei = -1) :
    Calls Tryd.prog 22 #[.pointer (some ⟨g, 0, none⟩), .agg #[.int .i64 4, .int .i64 ri, .int .i64 s.tei]] w fun e w' => ∃ v, e = .returned v ∧ Done w g D most ⟨[⟨0, 5, (dnxt D p).1, s.tei, 0⟩], 0, s, (dnxt D p).2⟩ v w' := by
  have H := Lib.hid h
  clear h
  have HE := Lib.hid hE
  have hwf := H.out.2.2
  have ha : s.asking = false := by
    unfold US.wf at hwf
    rcases hwf.2.2.2.2.2.2.2.2.1 with h | h
    · exact h
    · exact absurd h.1 ht
  have HA := Lib.hid ha
  have q0 : (s.tei != -1) = true := by simpa using ht
  clear hE hwf ha
  go_enter Tryd.func22, Tryd.ntmps22
  go_wp2_with ((go_at_call 45; refine (put_msg _ _ _ _).mono ?_; rintro e w1 ⟨x, rfl, bb, hl0, m0, m1, m2⟩; rw [HE.out]; have hu1 := H.out.below bb; have hlg := hu1.lt; have hgw := H.out.lt; have hgn : w.heap.size ≠ g := (by omega); obtain ⟨c0, c1, c2, c3, -, c5⟩ := hu1.cells; obtain ⟨f0, f1, f2, f3⟩ := hu1.free; rw [HA.out] at c1;  have HU1 := Lib.hid hu1; have BB := Lib.hid bb; clear hu1 bb))
  go_region_with (first | (go_at_call 42; refine (chk_next HU1.out _ _).mono ?_; rintro e w2 ⟨rfl, hu2, k2, v2⟩; have V2 := at_cell v2 0; simp at V2; have HU2 := Lib.hid hu2; have K2 := Lib.hid k2; clear k2 hu2 v2) | (go_at_call 48; refine (said_any _ _ _ _).mono ?_; rintro e w3 ⟨rfl, b3⟩; have B3 := Lib.hid b3; clear b3))
  all_goals go_wp2
  all_goals go_ret
  all_goals
    have k := (((Only.of_below BB.out (uset g D)).trans K2.out.user).trans (Only.of_below B3.out _))
    exact ⟨_, rfl, Efs.one _ _ ⟨0, 5, (dnxt D p).1, s.tei, 0⟩ k.size rfl, (HU2.out.below B3.out).below ((Below.refl _ _).alloc (Nat.le_refl _) _), k.alloc _⟩


set_option maxHeartbeats 1000000 in
theorem message_check2 {g : Nat} {D : Dr} {most : Int} {s : US} {p : Pn} (ri : Int) (w : World) (h : UAt w g D most s p) (hE : putE 4 ri 127 = 0) (ht : ¬ s.tei = -1) (h127 : ¬ (127 : Int) = s.tei) :
    Calls Tryd.prog 22 #[.pointer (some ⟨g, 0, none⟩), .agg #[.int .i64 4, .int .i64 ri, .int .i64 127]] w fun e w' => ∃ v, e = .returned v ∧ Done w g D most ⟨[⟨0, 5, (dnxt D p).1, s.tei, 0⟩], 0, s, (dnxt D p).2⟩ v w' := by
  have H := Lib.hid h
  clear h
  have HE := Lib.hid hE
  have hwf := H.out.2.2
  have ha : s.asking = false := by
    unfold US.wf at hwf
    rcases hwf.2.2.2.2.2.2.2.2.1 with h | h
    · exact h
    · exact absurd h.1 ht
  have HA := Lib.hid ha
  have q0 : (s.tei != -1) = true := by simpa using ht
  have q1 : ((127 : Int) == s.tei) = false := by simpa using h127
  clear hE hwf ha
  go_enter Tryd.func22, Tryd.ntmps22
  go_wp2_with ((go_at_call 45; refine (put_msg _ _ _ _).mono ?_; rintro e w1 ⟨x, rfl, bb, hl0, m0, m1, m2⟩; rw [HE.out]; have hu1 := H.out.below bb; have hlg := hu1.lt; have hgw := H.out.lt; have hgn : w.heap.size ≠ g := (by omega); obtain ⟨c0, c1, c2, c3, -, c5⟩ := hu1.cells; obtain ⟨f0, f1, f2, f3⟩ := hu1.free; rw [HA.out] at c1;  have HU1 := Lib.hid hu1; have BB := Lib.hid bb; clear hu1 bb))
  go_region_with (first | (go_at_call 42; refine (chk_next HU1.out _ _).mono ?_; rintro e w2 ⟨rfl, hu2, k2, v2⟩; have V2 := at_cell v2 0; simp at V2; have HU2 := Lib.hid hu2; have K2 := Lib.hid k2; clear k2 hu2 v2) | (go_at_call 48; refine (said_any _ _ _ _).mono ?_; rintro e w3 ⟨rfl, b3⟩; have B3 := Lib.hid b3; clear b3))
  all_goals go_wp2
  all_goals go_ret
  all_goals
    have k := (((Only.of_below BB.out (uset g D)).trans K2.out.user).trans (Only.of_below B3.out _))
    exact ⟨_, rfl, Efs.one _ _ ⟨0, 5, (dnxt D p).1, s.tei, 0⟩ k.size rfl, (HU2.out.below B3.out).below ((Below.refl _ _).alloc (Nat.le_refl _) _), k.alloc _⟩

set_option linter.unusedSimpArgs false in
theorem message_any {g : Nat} {D : Dr} {most : Int} {s : US} {p : Pn} (t ri ai : Int) (w : World) (h : UAt w g D most s p) :
    Calls Tryd.prog 22 #[.pointer (some ⟨g, 0, none⟩), .agg #[.int .i64 t, .int .i64 ri, .int .i64 ai]] w fun e w' => ∃ v, e = .returned v ∧ Done w g D most (uMsg D s p t ri ai) v w' := by
  by_cases hE : putE t ri ai = 0
  · by_cases ht : s.tei = -1
    · have hm : ¬ uMine s ai := fun hm => hm.1 ht
      by_cases h2 : t = 2
      · subst h2
        rcases ha : s.asking with _ | _
        · have e : uMsg D s p 2 ri ai = ⟨[], 0, s, p⟩ := by simp [uMsg, hE, uTakes, ha, hm]
          rw [e]; exact message_a1 ri ai w h hE ht ha
        · by_cases hr : ri = s.ri
          · subst hr
            by_cases hx : 64 ≤ ai ∧ ai ≤ 126
            · have e : uMsg D s p 2 s.ri ai = ⟨[⟨5, 0, 0, 0, 0⟩, ⟨1, 0, 0, 0, ai⟩], 0, ⟨ai, false, 0, 0⟩, p⟩ := by simp [uMsg, hE, uTakes, ha, hx]
              rw [e]; exact message_takes ai w h hE ht ha hx.1 hx.2
            · have e : uMsg D s p 2 s.ri ai = ⟨[], 0, s, p⟩ := by
                have : ¬ uTakes s 2 s.ri ai := fun hh => hx hh.2.2.2
                simp [uMsg, hE, this, hm]
              rw [e]; exact message_a3 ai w h hE ht ha (by omega)
          · have e : uMsg D s p 2 ri ai = ⟨[], 0, s, p⟩ := by
              have : ¬ uTakes s 2 ri ai := fun hh => hr hh.2.2.1
              simp [uMsg, hE, this, hm]
            rw [e]; exact message_a2 ri ai w h hE ht ha hr
      · have hk : ¬ uTakes s t ri ai := fun hh => h2 hh.1
        have e : uMsg D s p t ri ai = ⟨[], 0, s, p⟩ := by simp [uMsg, hE, hk, hm]
        rw [e]
        by_cases h4 : t = 4
        · subst h4; exact message_b41 ri ai w h hE ht
        · by_cases h6 : t = 6
          · subst h6; exact message_b61 ri ai w h hE ht
          · exact message_o1 t ri ai w h hE ht h2 h4 h6
    · have hk : ¬ uTakes s t ri ai := fun hh => by
        have hw := h.2.2
        unfold US.wf at hw
        rcases hw.2.2.2.2.2.2.2.2.1 with q | q
        · rw [hh.2.1] at q; cases q
        · exact ht q.1
      by_cases hai : ai = s.tei
      · subst hai
        have hm : uMine s s.tei := ⟨ht, Or.inl rfl⟩
        by_cases h2 : t = 2
        · subst h2
          have e : uMsg D s p 2 ri s.tei = ⟨(uLose s).1, 0, (uLose s).2, p⟩ := by simp [uMsg, hE, hk, hm]
          rw [e]; exact message_lose2 ri w h hE ht
        · by_cases h6 : t = 6
          · subst h6
            have e : uMsg D s p 6 ri s.tei = ⟨(uLose s).1, 0, (uLose s).2, p⟩ := by simp [uMsg, hE, hk, hm]
            rw [e]; exact message_lose6a ri w h hE ht
          · by_cases h4 : t = 4
            · subst h4
              have e : uMsg D s p 4 ri s.tei = ⟨[⟨0, 5, (dnxt D p).1, s.tei, 0⟩], 0, s, (dnxt D p).2⟩ := by simp [uMsg, hE, hk, hm]
              rw [e]; exact message_check1 ri w h hE ht
            · have e : uMsg D s p t ri s.tei = ⟨[], 0, s, p⟩ := by simp [uMsg, hE, hk, h2, h4, h6]
              rw [e]; exact message_o2 t ri w h hE ht h2 h4 h6
      · by_cases h127 : ai = 127
        · subst h127
          have hm : uMine s 127 := ⟨ht, Or.inr rfl⟩
          by_cases h2 : t = 2
          · subst h2
            have e : uMsg D s p 2 ri 127 = ⟨[], 0, s, p⟩ := by simp [uMsg, hE, hk, hai]
            rw [e]; exact message_a4 ri w h hE ht hai
          · by_cases h6 : t = 6
            · subst h6
              have e : uMsg D s p 6 ri 127 = ⟨(uLose s).1, 0, (uLose s).2, p⟩ := by simp [uMsg, hE, hk, hm]
              rw [e]; exact message_lose6b ri w h hE ht hai
            · by_cases h4 : t = 4
              · subst h4
                have e : uMsg D s p 4 ri 127 = ⟨[⟨0, 5, (dnxt D p).1, s.tei, 0⟩], 0, s, (dnxt D p).2⟩ := by simp [uMsg, hE, hk, hm]
                rw [e]; exact message_check2 ri w h hE ht hai
              · have e : uMsg D s p t ri 127 = ⟨[], 0, s, p⟩ := by simp [uMsg, hE, hk, h2, h4, h6]
                rw [e]; exact message_o3 t ri w h hE ht hai h2 h4 h6
        · have hm : ¬ uMine s ai := fun hm => hm.2.elim hai h127
          have e : uMsg D s p t ri ai = ⟨[], 0, s, p⟩ := by simp [uMsg, hE, hk, hm]
          rw [e]
          by_cases h2 : t = 2
          · subst h2; exact message_a5 ri ai w h hE ht hai h127
          · by_cases h4 : t = 4
            · subst h4; exact message_b42 ri ai w h hE ht hai h127
            · by_cases h6 : t = 6
              · subst h6; exact message_b62 ri ai w h hE ht hai h127
              · exact message_o4 t ri ai w h hE ht hai h127 h2 h4 h6
  · have e : uMsg D s p t ri ai = ⟨[], 0, s, p⟩ := by simp [uMsg, hE]
    rw [e]; exact message_bad t ri ai w h hE
end Go.Proofs.YtlfcfmdblmedcaaDoor.Mine
