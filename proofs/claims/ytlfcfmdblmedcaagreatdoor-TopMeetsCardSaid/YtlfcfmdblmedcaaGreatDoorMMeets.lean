/- TopMeets's walk (written by wip/prm.py). -/
import Derived.Test.YtlfcfmdblmedcaaGreatDoorMPrL
import Derived.Test.YtlfcfmdblmedcaaGreatDoorMBools
import Derived.StillTailTactics
namespace Go.Proofs.YtlfcfmdblmedcaaGreatDoor.Mine
open Go.RowKit Go.Maps Go.Proofs.YtlfcfmdblmedcaaGreatDoorW.PrintWords
set_option linter.unusedSimpArgs false
attribute [local go_sem] max_int min_int max_of_two min_of_two

/-- The pair's pointer is laid in a box. -/
theorem PairAt.push {W0 w : World} {p : Nat} {k : Bool} {a b : SG} {c : Nat} {nx : Int} (h : PairAt W0.heap.size W0 [] p k a b c nx w) (v : Value) : PairAt W0.heap.size W0 [(w.heap.size, #[v])] p k a b c nx (w.alloc (.cells #[v] 24)) := by
  obtain ⟨A, B, er, h⟩ := h
  have h1 := h.keep ((Below.refl _ w).alloc (Nat.le_refl _) (.cells #[v] 24)) h.hZ
  refine ⟨A, B, er, h1.box, h1.sa, h1.sb, h1.far, h1.hp, h1.bel, fun x hx => ?_⟩
  simp at hx
  subst hx
  exact at_new w _
theorem PairAt.top {W0 w : World} {p bx : Nat} {v : Value} {k : Bool} {a b : SG} {c : Nat} {nx : Int} (h : PairAt W0.heap.size W0 [(bx, #[v])] p k a b c nx w) : w.cell? ⟨bx, 0, none⟩ = some v := by
  obtain ⟨A, B, er, h⟩ := h
  have := at_cell (h.boxes (bx, #[v]) (by simp)) 0
  simpa using this
theorem PairAt.bel {W0 w : World} {X : List (Nat × Array Value)} {p : Nat} {k : Bool} {a b : SG} {c : Nat} {nx : Int} (h : PairAt W0.heap.size W0 X p k a b c nx w) : Below W0.heap.size W0 w := by
  obtain ⟨A, B, er, h⟩ := h
  exact h.bel
theorem Inv.more {T T' : Nat} {a : MS} (h : Inv T a) (hT : T ≤ T') : Inv T' a := InvM.more h hT
theorem PairAt.below {W0 w w' : World} {X : List (Nat × Array Value)} {p : Nat} {k : Bool} {a b : SG} {c : Nat} {nx : Int} (h : PairAt W0.heap.size W0 X p k a b c nx w) (hb : Below w.heap.size w w') : PairAt W0.heap.size W0 X p k a b c nx w' := by
  obtain ⟨A, B, er, h⟩ := h
  exact ⟨A, B, er, h.keep hb h.hZ⟩
theorem PairAt.drew {W0 w : World} {X : List (Nat × Array Value)} {p : Nat} {k : Bool} {a b : SG} {c : Nat} {nx : Int} (h : PairAt W0.heap.size W0 X p k a b c nx w) : PairAt W0.heap.size W0 X p k a b c nx w.drew := h.below ⟨rfl, rfl, rfl, Nat.le_refl _, fun _ _ => rfl⟩
set_option maxHeartbeats 4000000 in
set_option maxRecDepth 100000 in
/-- Both payloads come. -/
theorem closure_any {W0 : World} {p bx : Nat} {a b a' b' : SG} {c n : Nat} {nx : Int} (w : World) (HT : Tabs W0) (h : PairAt W0.heap.size W0 [(bx, #[.pointer (some ⟨p, 0, none⟩)])] p false a b c nx w) (hD : DrainR a b n a' b') (hn : n ≤ 100) (ha : a'.nd = 1) (hb : b'.nd = 1) (hc : c ≤ 800000000) :
    Calls Tryz.prog 12 #[.pointer (some ⟨bx, 0, none⟩)] w fun en w' => en = .returned (.bool true) ∧ Below W0.heap.size W0 w' := by
  have q0 := h.top
  have HP := Lib.hid h
  have HTT := Lib.hid HT
  have HD := Lib.hid hD
  clear h HT hD
  go_enter Tryz.func12, Tryz.ntmps12
  go_wp2_with fail
  refine (drain_any _ HTT.out HP.out HD.out hn hc).mono ?_
  rintro en w1 ⟨rfl, h1⟩
  have q1 := h1.top
  obtain ⟨⟨Ae, Arb, Afl, Aq, Atov, Atkv, Atdv⟩, ⟨Be, Brb, Bfl, Bq, Btov, Btkv, Btdv⟩, er, hP⟩ := h1
  obtain ⟨ys, td⟩ := hP.sa.td
  obtain ⟨zs, te⟩ := hP.sb.td
  obtain ⟨tA, tc, htd, _⟩ := td.slice
  obtain ⟨sA, sc, hsd, _⟩ := te.slice
  dsimp only at htd hsd
  rw [ha] at htd
  rw [hb] at hsd
  subst htd hsd
  have p6 := at_cell hP.box 6
  have p7 := at_cell hP.box 7
  simp only [pairCells, List.getElem?_toArray, List.getElem?_cons_zero, List.getElem?_cons_succ] at p6 p7
  have BEL := Lib.hid hP.bel
  clear hP td te q0 ha hb
  go_wp2
  go_ret
  exact ⟨rfl, BEL.out⟩
/-- Both ends, somewhere before they are settled. -/
def MeetI (w : World) (bx p T c : Nat) (wr : World) : Prop :=
  ∃ a b : MS, Inv T a ∧ Inv T b ∧ W a.F + W b.F ≤ 4 ∧ PairAt w.heap.size w [(bx, #[.pointer (some ⟨p, 0, none⟩)])] p false (a.sg 30) (b.sg 30) c 0 wr
set_option maxHeartbeats 16000000 in
set_option maxRecDepth 100000 in
theorem meets_any {A A2 : Option Addr} {cp c2 : Nat} {l : List Int} {l2 : List Bool} (w : World) (HT : Tabs w) (hR : ReadsInt w .i64 A l.length l) (hcp : l.length ≤ cp) (hR2 : ReadsUBools w A2 l2) (hs2 : l2.length ≤ 9223372036854775807) :
    Calls Tryz.prog 3 #[.slice A l.length cp, .slice A2 l2.length c2] w fun en w' => en = .returned (.bool true) ∧ Below w.heap.size w w' := by
  obtain ⟨q, hq, hqn, hq20⟩ := cut_at l.length 20 (by decide)
  have hq8 : q ≤ 20 := by omega
  have hqc : q ≤ cp := by omega
  have hf := fun (st tries vs va vr s l : Int) (asked r0 r3 : Bool) W => field_state (st := st) (tries := tries) (vs := vs) (va := va) (vr := vr) (s := s) (l := l) (asked := asked) (r0 := r0) (r3 := r3) W
  have HTT := Lib.hid HT
  have HR := Lib.hid hR
  have HR2 := Lib.hid hR2
  clear HT hR hR2 hq20
  go_enter Tryz.func3, Tryz.ntmps3
  go_wp2_with fail
  refine (begin_any 30 (Or.inr rfl) _ HTT.out).mono ?_
  rintro en w1 ⟨p, rfl, h1⟩
  have h2 := h1.push (.pointer (some ⟨p, 0, none⟩))
  have q2 := h2.top
  obtain ⟨bx, hbx⟩ : ∃ bx, w1.heap.size = bx := ⟨_, rfl⟩
  rw [hbx] at h2 q2
  have H2 := Lib.hid h2
  clear h1 h2
  go_wp2_with fail
  refine (links_any _ (HTT.out.below (H2.out.bel))).mono ?_
  rintro en w3 ⟨rfl, b3⟩
  have h3 := H2.out.below b3
  have q3 := h3.top
  have H3 := Lib.hid h3
  clear h3 b3 q2 hbx
  go_wp2_with fail
  refine (askEst_0 30 _ H3.out rfl (by decide)).mono ?_
  rintro en w4 ⟨rfl, h4⟩
  have q4 := h4.top
  have H4 := Lib.hid h4
  clear h4 q3
  go_wp2_with fail
  refine (askEst_1 30 _ H4.out.swap rfl (by decide)).mono ?_
  rintro en w5 ⟨rfl, h5⟩
  have HI := Lib.hid (show MeetI w bx p 0 80 w5 from ⟨⟨.C 0, [.S], 0⟩, ⟨.C 0, [.S], 0⟩, Nat.le_refl _, Nat.le_refl _, by decide, h5.swap⟩)
  clear h5 q4
  have q5 := (show PairAt w.heap.size w [(bx, #[.pointer (some ⟨p, 0, none⟩)])] p false _ _ _ _ w5 from HI.out.choose_spec.choose_spec.2.2.2).top
  go_wp2_with fail
  clear hq q5
  go_loopw [30] (fun i wr => ∃ k : Nat, i = .int .i64 (k : Int) ∧ k ≤ q ∧ MeetI w bx p k (80 + 100 * k) wr) (fun i _ => q - (intOf i).toNat)
  case atStart => exact ⟨0, rfl, Nat.zero_le _, HI.out⟩
  case round =>
    clear HI
    obtain ⟨k, rfl, hk, hI⟩ := hrel
    obtain ⟨a, b, ia, ib, hw, hP⟩ := hI
    by_cases hlt : k < q
    · obtain ⟨ad, rfl, hcell⟩ := HR.out.2.2 (by omega)
      have d0 := (hP.bel.cell (World.block_lt_of_cell? w _ (hcell k (by omega)))).trans (hcell k (by omega))
      have q0 := hP.top
      generalize l.getD k 0 = x at d0
      obtain ⟨pp, N, hp, hp0, hN, hN2, -⟩ := rounds_of x 2 (by decide)
      have HP := Lib.hid hP
      have IA := Lib.hid ia
      have IB := Lib.hid ib
      have HW := Lib.hid hw
      have hcc : 80 + 100 * k ≤ 900000000 := by omega
      have HCC := Lib.hid hcc
      clear hcell hP ia ib hw hcc
      rcases (show N = 0 ∨ N = 1 by omega) with rfl | rfl
      · have hN' : pp % 2 = 0 := hN
        have hN3 : pp.tmod 2 = pp % 2 := Int.tmod_eq_emod_of_nonneg hp0
        rw [hN'] at hN3
        clear hN hN2
        obtain ⟨L, hL⟩ : ∃ L, L = (if k < l2.length then l2.getD k false else false) := ⟨_, rfl⟩
        by_cases hkl : k < l2.length
        · rw [if_pos hkl] at hL
          obtain ⟨ad2, rfl, hcell2⟩ := HR2.out (by omega)
          have e0 := hcell2 k hkl
          have e1 := (HP.out.bel.cell (World.block_lt_of_cell? w _ e0)).trans e0
          rw [← hL] at e1
          have hkl' : (k : Int) < (l2.length : Int) := by omega
          clear hcell2 e0 hL
          go_wp2_with fail
          go_still_tail 14, (by kernel_rfl)
          change wpList _ _ _ _ _ (World.drew _)
          go_wp2_with fail
          refine (comeL_0 L _ HTT.out HP.out.drew HCC.out).mono ?_
          obtain ⟨r, hr⟩ : ∃ r, (comeL L a b).1 = r := ⟨_, rfl⟩
          rw [hr]
          rintro en w6 ⟨rfl, h1⟩
          have z0 := h1.top
          have NI := Lib.hid (comeL_inv L IA.out IB.out)
          have NW := Lib.hid (comeL_wt L a b)
          have H1 := Lib.hid h1
          have HRR := Lib.hid hr
          clear h1 hr q0 e1
          cases r with
          | true =>
            go_wp2
            go_roundw
            case rel => exact ⟨k + 1, by go_num, by omega, _, _, NI.out.1.more (Nat.le_succ k), NI.out.2.more (Nat.le_succ k), by have := HW.out; have := NW.out; omega, H1.out.more (by omega)⟩
            case measure => simp [intOf]; omega
          | false =>
            obtain ⟨hF, hcm⟩ := comeL_no L a b HRR.out
            have h2 := H1.out
            rw [hcm] at h2
            have H2b := Lib.hid h2
            have HF := Lib.hid hF
            clear h2 hF hcm
            go_wp2_with fail
            refine (overM_0 _ H2b.out HF.out IA.out (by omega) (by omega)).mono ?_
            rintro en w7 ⟨rfl, h3⟩
            have NI2 := Lib.hid (overM_inv IA.out IB.out)
            have NW2 := Lib.hid (overM_wt a b HF.out (by have := HW.out; omega))
            have H3b := Lib.hid h3
            clear h3 z0
            go_wp2
            go_roundw
            case rel => exact ⟨k + 1, by go_num, by omega, _, _, NI2.out.1, NI2.out.2, NW2.out, H3b.out.more (by omega)⟩
            case measure => simp [intOf]; omega
        · rw [if_neg hkl] at hL
          subst hL
          have hkl' : ¬ (k : Int) < (l2.length : Int) := by omega
          go_wp2_with fail
          go_still_tail 14, (by kernel_rfl)
          change wpList _ _ _ _ _ (World.drew _)
          go_wp2_with fail
          refine (comeL_0 false _ HTT.out HP.out.drew HCC.out).mono ?_
          obtain ⟨r, hr⟩ : ∃ r, (comeL false a b).1 = r := ⟨_, rfl⟩
          rw [hr]
          rintro en w6 ⟨rfl, h1⟩
          have z0 := h1.top
          have NI := Lib.hid (comeL_inv false IA.out IB.out)
          have NW := Lib.hid (comeL_wt false a b)
          have H1 := Lib.hid h1
          have HRR := Lib.hid hr
          clear h1 hr q0 
          cases r with
          | true =>
            go_wp2
            go_roundw
            case rel => exact ⟨k + 1, by go_num, by omega, _, _, NI.out.1.more (Nat.le_succ k), NI.out.2.more (Nat.le_succ k), by have := HW.out; have := NW.out; omega, H1.out.more (by omega)⟩
            case measure => simp [intOf]; omega
          | false =>
            obtain ⟨hF, hcm⟩ := comeL_no false a b HRR.out
            have h2 := H1.out
            rw [hcm] at h2
            have H2b := Lib.hid h2
            have HF := Lib.hid hF
            clear h2 hF hcm
            go_wp2_with fail
            refine (overM_0 _ H2b.out HF.out IA.out (by omega) (by omega)).mono ?_
            rintro en w7 ⟨rfl, h3⟩
            have NI2 := Lib.hid (overM_inv IA.out IB.out)
            have NW2 := Lib.hid (overM_wt a b HF.out (by have := HW.out; omega))
            have H3b := Lib.hid h3
            clear h3 z0
            go_wp2
            go_roundw
            case rel => exact ⟨k + 1, by go_num, by omega, _, _, NI2.out.1, NI2.out.2, NW2.out, H3b.out.more (by omega)⟩
            case measure => simp [intOf]; omega
      · have hN' : pp % 2 = 1 := hN
        have hN3 : pp.tmod 2 = pp % 2 := Int.tmod_eq_emod_of_nonneg hp0
        rw [hN'] at hN3
        clear hN hN2
        obtain ⟨L, hL⟩ : ∃ L, L = (if k < l2.length then l2.getD k false else false) := ⟨_, rfl⟩
        by_cases hkl : k < l2.length
        · rw [if_pos hkl] at hL
          obtain ⟨ad2, rfl, hcell2⟩ := HR2.out (by omega)
          have e0 := hcell2 k hkl
          have e1 := (HP.out.bel.cell (World.block_lt_of_cell? w _ e0)).trans e0
          rw [← hL] at e1
          have hkl' : (k : Int) < (l2.length : Int) := by omega
          clear hcell2 e0 hL
          go_wp2_with fail
          go_still_tail 14, (by kernel_rfl)
          change wpList _ _ _ _ _ (World.drew _)
          go_wp2_with fail
          refine (comeL_1 L _ HTT.out HP.out.drew.swap HCC.out).mono ?_
          obtain ⟨r, hr⟩ : ∃ r, (comeL L b a).1 = r := ⟨_, rfl⟩
          rw [hr]
          rintro en w6 ⟨rfl, h1⟩
          have z0 := h1.top
          have NI := Lib.hid (comeL_inv L IB.out IA.out)
          have NW := Lib.hid (comeL_wt L b a)
          have H1 := Lib.hid h1
          have HRR := Lib.hid hr
          clear h1 hr q0 e1
          cases r with
          | true =>
            go_wp2
            go_roundw
            case rel => exact ⟨k + 1, by go_num, by omega, _, _, NI.out.2.more (Nat.le_succ k), NI.out.1.more (Nat.le_succ k), by have := HW.out; have := NW.out; omega, H1.out.swap.more (by omega)⟩
            case measure => simp [intOf]; omega
          | false =>
            obtain ⟨hF, hcm⟩ := comeL_no L b a HRR.out
            have h2 := H1.out
            rw [hcm] at h2
            have H2b := Lib.hid h2
            have HF := Lib.hid hF
            clear h2 hF hcm
            go_wp2_with fail
            refine (overM_1 _ H2b.out HF.out IB.out (by omega) (by omega)).mono ?_
            rintro en w7 ⟨rfl, h3⟩
            have NI2 := Lib.hid (overM_inv IB.out IA.out)
            have NW2 := Lib.hid (overM_wt b a HF.out (by have := HW.out; omega))
            have H3b := Lib.hid h3
            clear h3 z0
            go_wp2
            go_roundw
            case rel => exact ⟨k + 1, by go_num, by omega, _, _, NI2.out.2, NI2.out.1, by have := NW2.out; omega, H3b.out.swap.more (by omega)⟩
            case measure => simp [intOf]; omega
        · rw [if_neg hkl] at hL
          subst hL
          have hkl' : ¬ (k : Int) < (l2.length : Int) := by omega
          go_wp2_with fail
          go_still_tail 14, (by kernel_rfl)
          change wpList _ _ _ _ _ (World.drew _)
          go_wp2_with fail
          refine (comeL_1 false _ HTT.out HP.out.drew.swap HCC.out).mono ?_
          obtain ⟨r, hr⟩ : ∃ r, (comeL false b a).1 = r := ⟨_, rfl⟩
          rw [hr]
          rintro en w6 ⟨rfl, h1⟩
          have z0 := h1.top
          have NI := Lib.hid (comeL_inv false IB.out IA.out)
          have NW := Lib.hid (comeL_wt false b a)
          have H1 := Lib.hid h1
          have HRR := Lib.hid hr
          clear h1 hr q0 
          cases r with
          | true =>
            go_wp2
            go_roundw
            case rel => exact ⟨k + 1, by go_num, by omega, _, _, NI.out.2.more (Nat.le_succ k), NI.out.1.more (Nat.le_succ k), by have := HW.out; have := NW.out; omega, H1.out.swap.more (by omega)⟩
            case measure => simp [intOf]; omega
          | false =>
            obtain ⟨hF, hcm⟩ := comeL_no false b a HRR.out
            have h2 := H1.out
            rw [hcm] at h2
            have H2b := Lib.hid h2
            have HF := Lib.hid hF
            clear h2 hF hcm
            go_wp2_with fail
            refine (overM_1 _ H2b.out HF.out IB.out (by omega) (by omega)).mono ?_
            rintro en w7 ⟨rfl, h3⟩
            have NI2 := Lib.hid (overM_inv IB.out IA.out)
            have NW2 := Lib.hid (overM_wt b a HF.out (by have := HW.out; omega))
            have H3b := Lib.hid h3
            clear h3 z0
            go_wp2
            go_roundw
            case rel => exact ⟨k + 1, by go_num, by omega, _, _, NI2.out.2, NI2.out.1, by have := NW2.out; omega, H3b.out.swap.more (by omega)⟩
            case measure => simp [intOf]; omega
    · obtain rfl : k = q := by omega
      obtain ⟨t, u, s, v, hu, hv, hRo⟩ := settle_law ia ib (by omega) (by omega)
      have q0 := hP.top
      have HP := Lib.hid hP
      have HRo := Lib.hid hRo
      have SA := Lib.hid (show SetOk (a.sg 30) by obtain ⟨am, aF, au⟩ := a; cases am <;> first | exact ⟨Or.inl rfl, rfl⟩ | exact ⟨Or.inr (Or.inl rfl), rfl⟩ | exact ⟨Or.inr (Or.inr rfl), rfl⟩)
      have SB := Lib.hid (show SetOk (b.sg 30) by obtain ⟨am, aF, au⟩ := b; cases am <;> first | exact ⟨Or.inl rfl, rfl⟩ | exact ⟨Or.inr (Or.inl rfl), rfl⟩ | exact ⟨Or.inr (Or.inr rfl), rfl⟩)
      clear hP hRo ia ib hw
      go_wp2_with fail
      refine (settle_any _ HTT.out HP.out SA.out SB.out HRo.out (by omega)).mono ?_
      rintro en w6 ⟨rfl, h6⟩
      have H6 := Lib.hid h6
      have hu' : ¬ ((u : Int) < 1) := by omega
      have hv' : ¬ ((v : Int) < 1) := by omega
      clear h6 q0
      go_wp2_with fail
      go_loopw [59] (fun i wr => (i = .int .i64 0 ∨ i = .int .i64 1 ∨ i = .int .i64 2) ∧ PairAt w.heap.size w [(bx, #[.pointer (some ⟨p, 0, none⟩)])] p false (MS.sg 30 ⟨.O t, [], u⟩) (MS.sg 30 ⟨.O s, [], v⟩) (80 + 100 * k + 10000000) 0 wr) (fun i _ => 2 - (intOf i).toNat)
      case atStart => exact ⟨Or.inl rfl, H6.out⟩
      case round =>
        clear H6
        obtain ⟨hi, hP⟩ := hrel
        have q0 := hP.top
        obtain ⟨A0, B0, er, hPI⟩ := hP
        rcases hi with rfl | rfl | rfl
        · have pen := at_cell hPI.box 0
          simp only [pairCells, List.getElem?_toArray, List.getElem?_cons_zero, List.getElem?_cons_succ] at pen
          have HPI := Lib.hid hPI
          clear hPI
          go_wp2_with fail
          refine (eview_any _ _ _ _ _ _ _ HPI.out.sa.en).mono ?_
          rintro en w7 ⟨rfl, b7⟩
          have hP7 := HPI.out.keep b7 HPI.out.hZ
          have q7 := (show PairAt w.heap.size w [(bx, #[.pointer (some ⟨p, 0, none⟩)])] p false _ _ _ _ w7 from ⟨_, _, _, hP7⟩).top
          have pdn := at_cell hP7.box 15
          have pup := at_cell hP7.box 13
          simp only [pairCells, List.getElem?_toArray, List.getElem?_cons_zero, List.getElem?_cons_succ, MS.sg] at pdn pup
          have HP7 := Lib.hid hP7
          clear b7 hP7 pen q0
          unfold evG
          simp only [MS.sg, Md.en, enO, FS.zero]
          go_wp2
          go_roundw
          case rel => exact ⟨Or.inr (Or.inl rfl), _, _, _, HP7.out⟩
          case measure => simp [intOf]
        · have pen := at_cell hPI.box 1
          simp only [pairCells, List.getElem?_toArray, List.getElem?_cons_zero, List.getElem?_cons_succ] at pen
          have HPI := Lib.hid hPI
          clear hPI
          go_wp2_with fail
          refine (eview_any _ _ _ _ _ _ _ HPI.out.sb.en).mono ?_
          rintro en w7 ⟨rfl, b7⟩
          have hP7 := HPI.out.keep b7 HPI.out.hZ
          have q7 := (show PairAt w.heap.size w [(bx, #[.pointer (some ⟨p, 0, none⟩)])] p false _ _ _ _ w7 from ⟨_, _, _, hP7⟩).top
          have pdn := at_cell hP7.box 16
          have pup := at_cell hP7.box 14
          simp only [pairCells, List.getElem?_toArray, List.getElem?_cons_zero, List.getElem?_cons_succ, MS.sg] at pdn pup
          have HP7 := Lib.hid hP7
          clear b7 hP7 pen q0
          unfold evG
          simp only [MS.sg, Md.en, enO, FS.zero]
          go_wp2
          go_roundw
          case rel => exact ⟨Or.inr (Or.inr rfl), _, _, _, HP7.out⟩
          case measure => simp [intOf]
        · have HP := Lib.hid (show PairAt w.heap.size w [(bx, #[.pointer (some ⟨p, 0, none⟩)])] p false (MS.sg 30 ⟨.O t, [], u⟩) (MS.sg 30 ⟨.O s, [], v⟩) (80 + 100 * k + 10000000) 0 wr from ⟨A0, B0, er, hPI⟩)
          clear hPI
          go_wp2_with fail
          refine (send_0 30 t _ HP.out rfl (by omega)).mono ?_
          rintro en w7 ⟨rfl, g0, o0, c0, s0, hs0, h7⟩
          have q7 := h7.top
          have H7 := Lib.hid h7
          have HS0 := Lib.hid hs0
          clear h7 hs0 q0
          go_wp2_with fail
          refine (send_1 30 s _ H7.out.swap rfl (by omega)).mono ?_
          rintro en w8 ⟨rfl, g1, o1, c1, s1, hs1, h8⟩
          have q8 := h8.top
          have H8 := Lib.hid h8.swap
          have HS1 := Lib.hid hs1
          clear h8 hs1 q7
          go_wp2_with fail
          refine (closure_any _ HTT.out H8.out (data_drain 30 t s g0 o0 c0 g1 o1 c1 u v s0 s1 HS0.out HS1.out) (by decide) rfl rfl (by omega)).mono ?_
          rintro en w9 ⟨rfl, b9⟩
          have B9 := Lib.hid b9
          clear b9 q8
          go_wp2
          go_ret
          exact ⟨rfl, B9.out⟩
end Go.Proofs.YtlfcfmdblmedcaaGreatDoor.Mine
