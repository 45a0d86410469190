/- The contracts of the reference of layer 16: Want, Verify, Drop, Timeout, Message; of layer 7's Put. -/
import Derived.Test.YtffkbadjbnmnmaaRefUser
namespace Go.Proofs.Ytffkbadjbnmnmaa.Mine
open Go.RowKit Go.Proofs.YtffkbadjbnmnmaaW.PrintWords
attribute [local go_sem] max_int min_int max_of_two min_of_two

set_option maxHeartbeats 1000000 in
set_option maxRecDepth 100000 in
theorem rput_any (t ri ai : Int) (w : World) :
    Calls Try.prog 42 #[.agg #[.int .i64 t, .int .i64 ri, .int .i64 ai]] w (PutPost w t ri ai) := by
  have hbox : Below w.heap.size w (w.alloc (.cells #[.int .i64 t, .int .i64 ri, .int .i64 ai] 83)) := (Below.refl _ _).alloc (Nat.le_refl _) _
  have HB := Lib.hid hbox
  clear hbox
  by_cases ht : t < 1
  · have e : putE t ri ai = 4 := if_pos (Or.inl ht)
    have E := Lib.hid e
    clear e
    go_enter Try.func42, Try.ntmps42
    go_wp2
    go_ret2
    exact ⟨_, by rw [E.out]; rfl, HB.out⟩
  · by_cases ht2 : 7 < t
    · have e : putE t ri ai = 4 := if_pos (Or.inr ht2)
      have E := Lib.hid e
      clear e
      go_enter Try.func42, Try.ntmps42
      go_wp2
      go_ret2
      exact ⟨_, by rw [E.out]; rfl, HB.out⟩
    · have e0 : putE t ri ai = if ri < 0 ∨ 65535 < ri then 2 else packE ai := if_neg (by omega)
      by_cases hr : ri < 0
      · have e : putE t ri ai = 2 := e0.trans (if_pos (Or.inl hr))
        have E := Lib.hid e
        clear e e0
        go_enter Try.func42, Try.ntmps42
        go_wp2
        go_ret2
        exact ⟨_, by rw [E.out]; rfl, HB.out⟩
      · by_cases hr2 : 65535 < ri
        · have e : putE t ri ai = 2 := e0.trans (if_pos (Or.inr hr2))
          have E := Lib.hid e
          clear e e0
          go_enter Try.func42, Try.ntmps42
          go_wp2
          go_ret2
          exact ⟨_, by rw [E.out]; rfl, HB.out⟩
        · have e1 : putE t ri ai = packE ai := e0.trans (if_neg (by omega))
          by_cases ha : ai < 0
          · have e : putE t ri ai = 2 := e1.trans (if_neg (by omega))
            have E := Lib.hid e
            clear e e0 e1
            go_enter Try.func42, Try.ntmps42
            go_wp2
            go_ret2
            exact ⟨_, by rw [E.out]; rfl, HB.out⟩
          · by_cases ha2 : 127 < ai
            · have e : putE t ri ai = 2 := e1.trans (if_neg (by omega))
              have E := Lib.hid e
              clear e e0 e1
              go_enter Try.func42, Try.ntmps42
              go_wp2
              go_ret2
              exact ⟨_, by rw [E.out]; rfl, HB.out⟩
            · have e : putE t ri ai = 0 := e1.trans (if_pos (by omega))
              have E := Lib.hid e
              clear e e0 e1
              have hcv := bytes5 (w.alloc (.cells #[.int .i64 t, .int .i64 ri, .int .i64 ai] 83)) 15 (ri / 256) (ri % 256) t (2 * ai + 1)
              rw [World.size_alloc] at hcv
              go_enter Try.func42, Try.ntmps42
              go_wp2
              go_ret2
              exact ⟨_, by rw [E.out]; rfl, HB.out.alloc HB.out.size _⟩

theorem RIn.drewN {w0 w : World} {g d : Nat} {most : Int} {s : US} {st : Int} {o : List Ef} (h : RIn w0 g d most s st o w) (n : Nat) : RIn w0 g d most s st o (w.drewN n) :=
  h.below (((Only.refl [] w).drewN n).below (Nat.le_refl _) (by simp))
def US.still (s : US) : Prop := s.asking = false → s.ri = 0 ∧ s.tries = 0
theorem wf_low {s : US} {most : Int} (h : s.wf most) (h1 : s.tei ≠ -1) : 0 ≤ s.tei ∧ s.asking = false := by
  unfold US.wf at h
  refine ⟨by omega, ?_⟩
  rcases h.2.2.2.2.2.2.2.2.1 with q | q
  · exact q
  · exact absurd q.1 h1
theorem wf_ask {s : US} {most : Int} (h : s.wf most) (h1 : s.asking = true) : s.tei = -1 ∧ 0 ≤ s.tries ∧ s.tries ≤ 32 := by
  unfold US.wf at h
  rcases h.2.2.2.2.2.2.2.2.1 with q | q
  · rw [h1] at q; cases q
  · exact ⟨q.1, by omega, by omega⟩

section
variable {w : World} {g d : Nat} {q : Nat × Nat} {most : Int} {s : US} {st : Int} {v : Value}

set_option maxHeartbeats 1000000 in
theorem rwant_any (h : RU w g d most s st v) (hw : s.wf most) :
    Calls Try.prog 30 #[.pointer (some ⟨g, 0, none⟩)] w fun e w' => e = .returned (.int .i64 (uWant (some q) s ([], st)).err) ∧ RDone w g d most (uWant (some q) s ([], st)) w' := by
  obtain ⟨-, c1, c2, -, c4, -, c6⟩ := h.cells
  have f6 := h.free 6
  have f4 := h.free 4
  have H := Lib.hid h
  have HW := Lib.hid hw
  clear h hw
  by_cases h0 : s.tei = -1
  · rw [h0] at c1
    rcases ha : s.asking with _ | _
    · rw [ha] at c2
      have e : uWant (some q) s ([], st) = ⟨[⟨0, 1, lcg st / 281474976710656, 127, 0⟩, ⟨4, 0, 0, 0, 0⟩], 0, ⟨-1, true, lcg st / 281474976710656, 1⟩, ([], lcg st)⟩ := by unfold uWant; rw [if_neg (by omega), if_neg (by simp [ha])]; rfl
      rw [e]
      have hR := (RIn.start H.out).set (s' := ⟨s.tei, s.asking, s.ri, 1⟩) rfl (fun v h => h.setTries 1)
      have HR := Lib.hid hR
      have H0 := Lib.hid h0
      clear e hR ha h0
      go_enter Try.func30, Try.ntmps30
      go_wp2_with fail
      refine (rask_any _ HR.out (by simp)).mono ?_
      rintro e w1 ⟨rfl, h1⟩
      rw [H0.out] at h1
      have H1 := Lib.hid h1
      clear h1
      go_wp2
      go_ret
      exact ⟨rfl, H1.out⟩
    · rw [ha] at c2
      have e : uWant (some q) s ([], st) = ⟨[], 12, s, ([], st)⟩ := by unfold uWant; simp [h0, ha]
      rw [e]
      clear e h0 ha
      go_enter Try.func30, Try.ntmps30
      go_wp2
      go_ret
      exact ⟨rfl, RIn.start H.out⟩
  · have e : uWant (some q) s ([], st) = ⟨[], 13, s, ([], st)⟩ := by unfold uWant; simp [h0]
    rw [e]
    have hp := (wf_low HW.out h0).1
    clear e h0
    go_enter Try.func30, Try.ntmps30
    go_wp2
    go_ret
    exact ⟨rfl, RIn.start H.out⟩

set_option maxHeartbeats 1000000 in
theorem rverify_any (h : RU w g d most s st v) (hw : s.wf most) :
    Calls Try.prog 31 #[.pointer (some ⟨g, 0, none⟩)] w fun e w' => e = .returned (.int .i64 (uVerify s ([], st)).err) ∧ RDone w g d most (uVerify s ([], st)) w' := by
  obtain ⟨-, c1, -, -, -, -, c6⟩ := h.cells
  have f6 := h.free 6
  have H := Lib.hid h
  have HW := Lib.hid hw
  clear h hw
  by_cases h0 : s.tei = -1
  · rw [h0] at c1
    have e : uVerify s ([], st) = ⟨[], 11, s, ([], st)⟩ := by unfold uVerify; simp [h0]
    rw [e]
    clear e h0
    go_enter Try.func31, Try.ntmps31
    go_wp2
    go_ret
    exact ⟨rfl, RIn.start H.out⟩
  · have e : uVerify s ([], st) = ⟨[⟨0, 7, 0, s.tei, 0⟩], 0, s, ([], st)⟩ := by unfold uVerify; simp [h0]
    rw [e]
    have hp := (wf_low HW.out h0).1
    clear e h0
    go_enter Try.func31, Try.ntmps31
    go_wp2_with fail
    refine (rsay_any 7 0 s.tei _ (RIn.start H.out) (by simp)).mono ?_
    rintro e w1 ⟨rfl, h1⟩
    have H1 := Lib.hid h1
    clear h1
    go_wp2
    go_ret
    exact ⟨rfl, H1.out⟩

set_option maxHeartbeats 1000000 in
theorem rdrop_any (h : RU w g d most s st v) (hw : s.wf most) (hq : s.still) :
    Calls Try.prog 32 #[.pointer (some ⟨g, 0, none⟩)] w fun e w' => e = .returned (.int .i64 (uDrop s ([], st)).err) ∧ RDone w g d most (uDrop s ([], st)) w' := by
  obtain ⟨-, c1, c2, -, -, -, c6⟩ := h.cells
  have f6 := h.free 6
  have H := Lib.hid h
  have HW := Lib.hid hw
  clear h hw
  rcases ha : s.asking with _ | _
  · rw [ha] at c2
    by_cases h0 : s.tei = -1
    · rw [h0] at c1
      have e : uDrop s ([], st) = ⟨[], 11, s, ([], st)⟩ := by unfold uDrop; simp [h0, ha]
      rw [e]
      clear e h0 ha hq
      go_enter Try.func32, Try.ntmps32
      go_wp2
      go_ret
      exact ⟨rfl, RIn.start H.out⟩
    · have e : uDrop s ([], st) = ⟨[⟨2, 0, 0, 0, s.tei⟩], 0, uIdle, ([], st)⟩ := by unfold uDrop; simp [h0, ha, uLose]
      rw [e]
      have hp := (wf_low HW.out h0).1
      have hi : (⟨-1, s.asking, s.ri, s.tries⟩ : US) = uIdle := by obtain ⟨q1, q2⟩ := hq ha; rw [ha, q1, q2]; rfl
      have HI := Lib.hid hi
      clear e h0 hi ha hq
      go_enter Try.func32, Try.ntmps32
      go_wp2_with fail
      refine (rlose_any _ (RIn.start H.out) (by simp)).mono ?_
      rintro e w1 ⟨rfl, h1⟩
      rw [HI.out] at h1
      have H1 := Lib.hid h1
      clear h1
      go_wp2
      go_ret
      exact ⟨rfl, H1.out⟩
  · rw [ha] at c2
    have e : uDrop s ([], st) = ⟨[⟨5, 0, 0, 0, 0⟩], 0, uIdle, ([], st)⟩ := by unfold uDrop; simp [ha]
    rw [e]
    have hi : (⟨s.tei, false, 0, 0⟩ : US) = uIdle := by rw [(wf_ask HW.out ha).1]; rfl
    have HI := Lib.hid hi
    clear e hi ha hq
    go_enter Try.func32, Try.ntmps32
    go_wp2_with fail
    refine (rtell_any 5 0 _ (RIn.start H.out) (by simp)).mono ?_
    rintro e w1 ⟨rfl, h1⟩
    have H1 := Lib.hid h1
    clear h1
    go_wp2_with fail
    refine (ridle_any _ H1.out).mono ?_
    rintro e w2 ⟨rfl, h1⟩
    rw [HI.out] at h1
    have H2 := Lib.hid h1
    clear h1
    go_wp2
    go_ret
    exact ⟨rfl, H2.out⟩

set_option maxHeartbeats 1000000 in
theorem rtimeout_any (h : RU w g d most s st v) (hw : s.wf most) :
    Calls Try.prog 33 #[.pointer (some ⟨g, 0, none⟩)] w fun e w' => e = .returned (.tuple #[]) ∧ RDone w g d most (uTimeout (some q) most s ([], st)) w' := by
  obtain ⟨c0, c1, c2, -, c4, -, c6⟩ := h.cells
  have f6 := h.free 6
  have f4 := h.free 4
  have H := Lib.hid h
  have HW := Lib.hid hw
  clear h hw
  rcases ha : s.asking with _ | _
  · rw [ha] at c2
    have e : uTimeout (some q) most s ([], st) = ⟨[], 0, s, ([], st)⟩ := by unfold uTimeout; simp [ha]
    rw [e]
    clear e ha
    go_enter Try.func33, Try.ntmps33
    go_wp2
    first
      | go_end0
      | refine bodyPost_ret (results_none rfl _ _ _) rfl ?_
    exact ⟨rfl, RIn.start H.out⟩
  · rw [ha] at c2
    have hS := RIn.start H.out
    have HS := Lib.hid hS
    clear hS
    by_cases hm : s.tries = most
    · have e : uTimeout (some q) most s ([], st) = ⟨[⟨3, 0, 0, 0, 0⟩], 0, uIdle, ([], st)⟩ := by unfold uTimeout; simp [ha, hm]
      rw [e]
      rw [hm] at c4
      have hi : (⟨s.tei, false, 0, 0⟩ : US) = uIdle := by rw [(wf_ask HW.out ha).1]; rfl
      have HI := Lib.hid hi
      clear e hi ha hm
      go_enter Try.func33, Try.ntmps33
      go_wp2
      go_quiet (fail)
      go_wp2_with fail
      refine (ridle_any _ (HS.out.drewN _)).mono ?_
      rintro e w2 ⟨rfl, h1⟩
      rw [HI.out] at h1
      have H2 := Lib.hid h1
      clear h1
      go_wp2_with fail
      refine (rtell_any 3 0 _ H2.out (by simp)).mono ?_
      rintro e w1 ⟨rfl, h1⟩
      have H1 := Lib.hid h1
      clear h1
      go_wp2
      first
        | go_end0
        | refine bodyPost_ret (results_none rfl _ _ _) rfl ?_
      exact ⟨rfl, H1.out⟩
    · obtain ⟨ht, h1, h2⟩ := wf_ask HW.out ha
      have e : uTimeout (some q) most s ([], st) = ⟨[⟨0, 1, lcg st / 281474976710656, 127, 0⟩, ⟨4, 0, 0, 0, 0⟩], 0, ⟨-1, true, lcg st / 281474976710656, s.tries + 1⟩, ([], lcg st)⟩ := by unfold uTimeout; rw [if_pos ha, if_neg hm]; rfl
      rw [e]
      have hs : wrap64 (s.tries + 1) = s.tries + 1 := w64 _ (by omega) (by omega)
      have HT := Lib.hid ht
      have hq : (s.tries == most) = false := by simpa using hm
      clear e ha hm ht hs
      go_enter Try.func33, Try.ntmps33
      go_wp2
      go_quiet (fail)
      go_wp2_with fail
      refine (rask_any _ ((HS.out.drewN _).set (s' := ⟨s.tei, s.asking, s.ri, s.tries + 1⟩) rfl (fun v h => h.setTries (s.tries + 1))) (by simp)).mono ?_
      rintro e w1 ⟨rfl, h3⟩
      rw [HT.out] at h3
      have H3 := Lib.hid h3
      clear h3
      go_wp2
      first
        | go_end0
        | refine bodyPost_ret (results_none rfl _ _ _) rfl ?_
      exact ⟨rfl, H3.out⟩
end
end Go.Proofs.Ytffkbadjbnmnmaa.Mine
