/- The contract of layer 16's act: both users, in step. -/
import Derived.Test.YtffkbadjbnmnmaaUserSame
namespace Go.Proofs.Ytffkbadjbnmnmaa.Mine
open Go.RowKit Go.Proofs.YtffkbadjbnmnmaaW.PrintWords

/-- The user, and the document's, in step. -/
def Both (w : World) (gU d1 r1 g2 d2 : Nat) (most : Int) (s : US) (st : Int) : Prop :=
  UAt w gU (some (d1, r1)) most s ([], st) ∧ (∃ v, RU w g2 d2 most s st v) ∧ s.still ∧ gU ≠ g2 ∧ gU ≠ d2 ∧ d1 ≠ g2 ∧ d1 ≠ d2
theorem UAt.off {w w' : World} {g d r : Nat} {most : Int} {s : US} {st : Int} {S : List Nat} (h : UAt w g (some (d, r)) most s ([], st)) (k : Only S w w') (hg : g ∉ S) (hd : d ∉ S) : UAt w' g (some (d, r)) most s ([], st) := by
  obtain ⟨h1, ⟨h2, h3, h4⟩, h5⟩ := h
  obtain ⟨A, c, a1, a2, a3, a4⟩ := h2
  exact ⟨k.at h1 hg, ⟨⟨A, c, k.at a1 hd, a2, a3, Or.inl rfl⟩, h3, h4⟩, h5⟩
theorem Both.below {w w' : World} {gU d1 r1 g2 d2 : Nat} {most : Int} {s : US} {st : Int} (h : Both w gU d1 r1 g2 d2 most s st) (b : Below w.heap.size w w') : Both w' gU d1 r1 g2 d2 most s st := by
  obtain ⟨h1, ⟨v, h2⟩, h3⟩ := h
  exact ⟨h1.below b, ⟨v, h2.below b⟩, h3⟩

theorem still_idle : uIdle.still := fun _ => ⟨rfl, rfl⟩
theorem still_want (D : Dr) (s : US) (p : Pn) (h : s.still) : (uWant D s p).st.still := by
  unfold uWant; split
  · exact h
  · split
    · exact h
    · exact fun h => Bool.noConfusion h
theorem still_verify (s : US) (p : Pn) (h : s.still) : (uVerify s p).st.still := by
  unfold uVerify; split <;> exact h
theorem still_drop (s : US) (p : Pn) (h : s.still) : (uDrop s p).st.still := by
  unfold uDrop; split
  · exact still_idle
  · split
    · exact h
    · exact still_idle
theorem still_timeout (D : Dr) (most : Int) (s : US) (p : Pn) (h : s.still) : (uTimeout D most s p).st.still := by
  unfold uTimeout; split
  · split
    · exact still_idle
    · exact fun h => Bool.noConfusion h
  · exact h
theorem still_msg (D : Dr) (s : US) (p : Pn) (t ri ai : Int) (h : s.still) : (uMsg D s p t ri ai).st.still := by
  unfold uMsg; split
  · exact h
  · split
    · exact fun _ => ⟨rfl, rfl⟩
    · split
      · exact still_idle
      · split
        · exact h
        · exact h
theorem pn_next (q : Nat × Nat) (st : Int) : (dnxt (some q) ([], st)).2.1 = [] := rfl
theorem pn_want (q : Nat × Nat) (s : US) (st : Int) : (uWant (some q) s ([], st)).pn.1 = [] := by
  unfold uWant; split
  · rfl
  · split <;> rfl
theorem pn_verify (s : US) (st : Int) : (uVerify s ([], st)).pn.1 = [] := by
  unfold uVerify; split <;> rfl
theorem pn_drop (s : US) (st : Int) : (uDrop s ([], st)).pn.1 = [] := by
  unfold uDrop; split
  · rfl
  · split <;> rfl
theorem pn_timeout (q : Nat × Nat) (most : Int) (s : US) (st : Int) : (uTimeout (some q) most s ([], st)).pn.1 = [] := by
  unfold uTimeout; split
  · split <;> rfl
  · rfl
theorem pn_msg (q : Nat × Nat) (s : US) (st t ri ai : Int) : (uMsg (some q) s ([], st) t ri ai).pn.1 = [] := by
  unfold uMsg; split
  · rfl
  · split
    · rfl
    · split
      · rfl
      · split <;> rfl

/-- Behind the act of both. -/
def ActCut (w : World) (gU d1 r1 g2 d2 : Nat) (most : Int) (l e c : Value) (W : World) : Prop :=
  ∃ (d : Did) (A1 A2 : Option Addr) (c1 c2 : Nat), l = .slice A1 d.efs.length c1 ∧ e = .int .i64 d.err ∧ c = .int .i64 d.err ∧ ReadsEfs W A1 d.efs ∧ RU W g2 d2 most d.st d.pn.2 (.slice A2 d.efs.length c2) ∧ ReadsEfs W A2 d.efs ∧
    UAt W gU (some (d1, r1)) most d.st ([], d.pn.2) ∧ d.efs.length ≤ 2 ∧ (d.err ≠ 0 → d.efs = []) ∧ d.st.still ∧ Only [gU, d1, g2, d2] w W
def ActPost (w : World) (gU d1 r1 g2 d2 : Nat) (most : Int) (W : World) : Prop := ∃ s st, Both W gU d1 r1 g2 d2 most s st ∧ Only [gU, d1, g2, d2] w W

theorem Ef.At.keep {w w' : World} {ad : Addr} {x : Ef} (h : Ef.At w ad x) (go : ∀ {a : Addr} {v : Value}, w.cell? a = some v → (a.block = ad.block) → w'.cell? a = some v) : Ef.At w' ad x := by
  obtain ⟨h0, h1, h2, h3, h4⟩ := h
  rw [add_pos _ _ (by decide)] at h1 h2 h3 h4
  refine ⟨go h0 rfl, ?_, ?_, ?_, ?_⟩
  · rw [add_pos _ _ (by decide)]; exact go h1 rfl
  · rw [add_pos _ _ (by decide)]; exact go h2 rfl
  · rw [add_pos _ _ (by decide)]; exact go h3 rfl
  · rw [add_pos _ _ (by decide)]; exact go h4 rfl

section
variable {w W w1 w2 : World} {gU d1 r1 g2 d2 : Nat} {most : Int} {s : US} {st : Int} {d : Did} {v : Value}
theorem Both.ref (h : Both W gU d1 r1 g2 d2 most s st) (hr : Done W gU (some (d1, r1)) most d v w1) : ∃ v, RU w1 g2 d2 most s st v := by
  obtain ⟨h1, ⟨v2, h2⟩, h3, n1, n2, n3, n4⟩ := h
  exact ⟨v2, h2.off hr.2.2 (by simp [uset, dset]; omega) (by simp [uset, dset]; omega)⟩
theorem both_act (h : Both W gU d1 r1 g2 d2 most s st) (k : Only [gU, d1, g2, d2] w W) (hr : Done W gU (some (d1, r1)) most d v w1) (hf : RDone w1 g2 d2 most d w2) (hok : DidOk s d) (hs : d.st.still) (hp : d.pn.1 = []) :
    ActCut w gU d1 r1 g2 d2 most v (.int .i64 d.err) (.int .i64 d.err) w2 := by
  obtain ⟨h1, ⟨v2, h2⟩, h3, n1, n2, n3, n4⟩ := h
  obtain ⟨⟨A1, c1, hv, he⟩, hu, hk⟩ := hr
  obtain ⟨v3, f1, f2, f3, f4, f5⟩ := hf
  obtain ⟨efs, err, dst, ⟨p1, p2⟩⟩ := d
  dsimp only at hp hv he hu f1 f2 hs hok
  subst hp hv
  obtain ⟨A2, c2, rfl⟩ := own_slice f2
  have hl2 := h2.lt
  have he2 : efs = [] ∨ ∃ b, A1 = some ⟨b, 0, none⟩ ∧ W.heap.size ≤ b ∧ w2.heap[b]? = some (.cells (efCells efs).toArray 39 (0, 0)) := by
    refine he.imp id ?_
    rintro ⟨b, e1, e2, e3⟩
    exact ⟨b, e1, e2, f3.at e3 (by simp; omega)⟩
  refine ⟨⟨efs, err, dst, ([], p2)⟩, A1, A2, c1, c2, rfl, rfl, rfl, ReadsEfs.of he2 hok.2.2, f1, (ReadsEfs.outs f2).2, hu.off f3 (by simp; omega) (by simp; omega), hok.2.2, fun h => (hok.2.1 h).1, hs, ?_⟩
  refine k.trans (Only.trans (hk.mono ?_) (f3.mono ?_))
  · intro x hx; simp [uset, dset] at hx; simp; omega
  · intro x hx; simp at hx; simp; omega
end

attribute [local go_sem] max_int min_int max_of_two min_of_two
set_option maxHeartbeats 2000000 in
set_option maxRecDepth 100000 in
theorem act_any {gU d1 r1 g2 d2 : Nat} {most : Int} {s : US} {st : Int} (z : AV) (w : World) (h : Both w gU d1 r1 g2 d2 most s st) :
    Calls Try.prog 22 #[.pointer (some ⟨gU, 0, none⟩), .pointer (some ⟨g2, 0, none⟩), z.val] w fun e w' => e = .returned (.bool true) ∧ ActPost w gU d1 r1 g2 d2 most w' := by
  obtain ⟨x0, t1, r0, a1, own1, mine1⟩ := z
  unfold AV.val
  have hb := h.below ((Below.refl _ w).alloc (Nat.le_refl _) (.cells #[.int .i64 x0, .int .i64 t1, .int .i64 r0, .int .i64 a1, .bool own1, .bool mine1] 49))
  have hk : Only [gU, d1, g2, d2] w (w.alloc (.cells #[.int .i64 x0, .int .i64 t1, .int .i64 r0, .int .i64 a1, .bool own1, .bool mine1] 49)) := (Only.refl _ _).alloc _
  have hx := at_new w (.cells #[.int .i64 x0, .int .i64 t1, .int .i64 r0, .int .i64 a1, .bool own1, .bool mine1] 49)
  have HB := Lib.hid hb
  have HK := Lib.hid hk
  have HX := Lib.hid hx
  clear h hb hk hx
  go_enter Try.func22, Try.ntmps22
  go_upto_block 0 with (fail)
  generalize w.alloc (.cells #[.int .i64 x0, .int .i64 t1, .int .i64 r0, .int .i64 a1, .bool own1, .bool mine1] 49) = W0 at HB HK HX ⊢
  have y0 := at_cell HX.out 0
  have y1 := at_cell HX.out 1
  have y2 := at_cell HX.out 2
  have y3 := at_cell HX.out 3
  have y4 := at_cell HX.out 4
  have y5 := at_cell HX.out 5
  simp at y0 y1 y2 y3 y4 y5
  go_cut [7, 8, 9] (fun l e c wc => ActCut w gU d1 r1 g2 d2 most l e c wc)
  case first =>
    rcases ten_ways (Int.tmod x0 6) with (q1 | ⟨q1, q2⟩) | ⟨q1, q2, q3 | ⟨q3, q4⟩⟩ | ⟨q1, q2, q3, q4, q5 | ⟨q5, q6⟩⟩ | ⟨q1, q2, q3, q4, q5, q6, q7 | ⟨q7, q8⟩⟩ | ⟨q1, q2, q3, q4, q5, q6, q7, q8⟩
    all_goals go_wp2_with fail
    all_goals first
      | (refine (want_any _ HB.out.1).mono ?_
         rintro e w1 ⟨v, rfl, hd⟩
         have HD := Lib.hid hd
         have HRF := Lib.hid (HB.out.ref hd)
         clear hd
         go_wp2_with fail
         refine (rwant_any (q := (d1, r1)) HRF.out.choose_spec HB.out.1.2.2).mono ?_
         rintro e w2 ⟨rfl, hf⟩
         have hI := both_act HB.out HK.out HD.out hf (ok_want _ _ _) (still_want _ _ _ HB.out.2.2.1) (pn_want _ _ _)
         clear hf
         go_wp2_with fail
         go_meet
         case rel => exact hI)
      | (refine (verify_any _ HB.out.1).mono ?_
         rintro e w1 ⟨v, rfl, hd⟩
         have HD := Lib.hid hd
         have HRF := Lib.hid (HB.out.ref hd)
         clear hd
         go_wp2_with fail
         refine (rverify_any HRF.out.choose_spec HB.out.1.2.2).mono ?_
         rintro e w2 ⟨rfl, hf⟩
         have hI := both_act HB.out HK.out HD.out hf (ok_verify _ _) (still_verify _ _ HB.out.2.2.1) (pn_verify _ _)
         clear hf
         go_wp2_with fail
         go_meet
         case rel => exact hI)
      | (refine (drop_any _ HB.out.1).mono ?_
         rintro e w1 ⟨v, rfl, hd⟩
         have HD := Lib.hid hd
         have HRF := Lib.hid (HB.out.ref hd)
         clear hd
         go_wp2_with fail
         refine (rdrop_any HRF.out.choose_spec HB.out.1.2.2 HB.out.2.2.1).mono ?_
         rintro e w2 ⟨rfl, hf⟩
         have hI := both_act HB.out HK.out HD.out hf (ok_drop _ _) (still_drop _ _ HB.out.2.2.1) (pn_drop _ _)
         clear hf
         go_wp2_with fail
         go_meet
         case rel => exact hI)
      | (refine (timeout_any _ HB.out.1).mono ?_
         rintro e w1 ⟨v, rfl, hd⟩
         have HD := Lib.hid hd
         have HRF := Lib.hid (HB.out.ref hd)
         clear hd
         go_wp2_with fail
         refine (rtimeout_any (q := (d1, r1)) HRF.out.choose_spec HB.out.1.2.2).mono ?_
         rintro e w2 ⟨rfl, hf⟩
         have hI := both_act HB.out HK.out HD.out hf (ok_timeout _ _ _ _) (still_timeout _ _ _ _ HB.out.2.2.1) (pn_timeout _ _ _ _)
         rw [uTimeout_err] at hI
         clear hf
         go_wp2_with fail
         go_meet
         case rel => exact hI)
      | (refine (made_any (s := s) x0 t1 r0 a1 own1 mine1 _ (fun W hW => view_any W (HB.out.1.below hW))).mono ?_
         rintro e wb ⟨rfl, bb⟩
         obtain ⟨ri, hri⟩ : ∃ ri, madeRi s own1 r0 = ri := ⟨_, rfl⟩
         obtain ⟨ai, hai⟩ : ∃ ai, madeAi s mine1 a1 = ai := ⟨_, rfl⟩
         rw [hri, hai]
         clear hri hai
         have hB2 := (HB.out.below bb).below ((Below.refl _ wb).alloc (Nat.le_refl _) (.cells #[.int .i64 t1, .int .i64 ri, .int .i64 ai] 36))
         have hK2 : Only [gU, d1, g2, d2] w (wb.alloc (.cells #[.int .i64 t1, .int .i64 ri, .int .i64 ai] 36)) := (HK.out.trans (Only.of_below bb _)).alloc _
         have hM := at_new wb (.cells #[.int .i64 t1, .int .i64 ri, .int .i64 ai] 36)
         have hul := (HB.out.1.below bb).lt
         have hdl : d1 < wb.heap.size := (HB.out.1.below bb).2.1.all_lt d1 (by simp [dset])
         have HB2 := Lib.hid hB2
         have HK2 := Lib.hid hK2
         have HM := Lib.hid hM
         clear hB2 hK2 hM bb y0 y1 y2 y3 y4 y5
         go_wp2_with fail
         refine (message_any _ _ _ _ HB2.out.1).mono ?_
         rintro e w1 ⟨v, rfl, hd⟩
         have hM1 := hd.2.2.at HM.out (by simp [uset, dset]; omega)
         have m0 := at_cell hM1 0
         have m1 := at_cell hM1 1
         have m2 := at_cell hM1 2
         simp at m0 m1 m2
         have HD := Lib.hid hd
         have HRF := Lib.hid (HB2.out.ref hd)
         clear hd hM1
         go_wp2_with fail
         refine (rmessage_any (q := (d1, r1)) t1 ri ai HRF.out.choose_spec HB2.out.1.2.2 HB2.out.2.2.1).mono ?_
         rintro e w2 ⟨rfl, hf⟩
         have hI := both_act HB2.out HK2.out HD.out hf (ok_msg _ _ _ _ _ _ _ HB2.out.1.2.2) (still_msg _ _ _ _ _ _ HB2.out.2.2.1) (pn_msg _ _ _ _ _ _)
         rw [uMsg_err] at hI
         clear hf m0 m1 m2
         go_wp2_with fail
         go_meet
         case rel => exact hI)
  case rest =>
    obtain ⟨⟨efs, err, ⟨tei, asking, ri, tries⟩, ⟨p1, p2⟩⟩, A1, A2, c1, c2, rfl, rfl, rfl, hR1, hU2, hR2, hU1, hl, he, hs, hk⟩ := hcut
    dsimp only at hR1 hU2 hR2 hU1 hl he hs ⊢
    obtain ⟨m, hm⟩ : ∃ m, efs.length = m := ⟨_, rfl⟩
    rw [hm] at hU2 hl ⊢
    obtain ⟨nn1, nn2, nn3, nn4⟩ := HB.out.2.2.2
    have hP : Both wc gU d1 r1 g2 d2 most ⟨tei, asking, ri, tries⟩ p2 := ⟨hU1, ⟨_, hU2⟩, hs, nn1, nn2, nn3, nn4⟩
    obtain ⟨-, -, -, -, -, -, k6⟩ := hU2.cells
    have HP := Lib.hid hP
    have HKC := Lib.hid hk
    have HR1 := Lib.hid hR1
    have HR2 := Lib.hid hR2
    have HM := Lib.hid hm
    clear hP hk hR1 hR2 hU1 hU2 hs y0 y1 y2 y3 y4 y5 HX HK HB
    by_cases he0 : err = 0
    · subst he0
      clear he hm
      go_wp2_with fail
      refine (same_any _ HM.out HR1.out HR2.out hl).mono ?_
      rintro e w3 ⟨rfl, b3⟩
      have hI : ActPost w gU d1 r1 g2 d2 most w3 := ⟨_, _, HP.out.below b3, HKC.out.trans (Only.of_below b3 _)⟩
      have HI := Lib.hid hI
      clear hI b3
      go_wp2
      go_ret
      exact ⟨rfl, HI.out⟩
    · have hm0 : m = 0 := by rw [← HM.out, he he0]; rfl
      have q1 : (err != 0) = true := by simpa using he0
      have q2 : (err == 0) = false := by simpa using he0
      clear he hm
      subst hm0
      go_wp2
      go_ret
      exact ⟨rfl, ⟨_, _, HP.out, HKC.out⟩⟩
end Go.Proofs.Ytffkbadjbnmnmaa.Mine
