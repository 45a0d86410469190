/- A link that is made (links); what a payload at either side does. -/
import Derived.Test.YtlfcfmdblmedcaaGreatDoorMPrI
import Derived.Test.YtlfcfmdblmedcaaGreatDoorMPrJ
import Derived.Test.YtlfcfmdblmedcaaGreatDoorMPrK
namespace Go.Proofs.YtlfcfmdblmedcaaGreatDoor.Mine
open Go.RowKit Go.Maps Go.Proofs.YtlfcfmdblmedcaaGreatDoorW.PrintWords
set_option linter.unusedSimpArgs false

/-- One end asks, the other one has its TEI: the link is made. -/
theorem links_drain : DrainR ⟨enC 3 0, [], 0, 0⟩ ⟨enA 3, [fS], 0, 0⟩ 2 ⟨enO 3 0, [], 0, 1⟩ ⟨enO 3 0, [], 0, 1⟩ := by
  have hA := ComeR.some (a := ⟨enA 3, [fS], 0, 0⟩) (b := ⟨enC 3 0, [], 0, 0⟩) (r := []) rfl (fr_A_S 3) (fun x hx => by simp [enO, FS.zero, Value.ownBlock] at hx) (by simp [Good, xU, xSend, xTold, xTimer]) (by decide)
  have hC := ComeR.some (a := ⟨enC 3 0, [fU], 0, 0⟩) (b := ⟨enO 3 0, [], 0, 1⟩) (r := []) rfl (fr_C_U 3 0) (fun x hx => by simp [enO, FS.zero, Value.ownBlock] at hx) (by simp [Good, xTold, xTimer]) (by decide)
  exact DrainR.more (ComeR.none rfl) hA rfl (DrainR.more hC (ComeR.none rfl) rfl (DrainR.stop rfl rfl))
/-- A payload at either side: both come, and are answered. -/
theorem data_drain (m : Int) (t0 t1 g0 o0 c0 g1 o1 c1 u0 u1 : Nat) (s0 s1 : ByteArray) (h0 : s0.size = 2) (h1 : s1.size = 2) :
    DrainR ⟨enS m t0 (.slice (some ⟨g0, o0, none⟩) 1 c0) s0, [fI s1], 0, u0⟩ ⟨enS m t1 (.slice (some ⟨g1, o1, none⟩) 1 c1) s1, [fI s0], 0, u1⟩ 2 ⟨enU m t0 g0 o0, [], 1, u0⟩ ⟨enU m t1 g1 o1, [], 1, u1⟩ := by
  have hI0 := ComeR.some (a := ⟨enS m t0 (.slice (some ⟨g0, o0, none⟩) 1 c0) s0, [fI s1], 0, u0⟩) (b := ⟨enS m t1 (.slice (some ⟨g1, o1, none⟩) 1 c1) s1, [fI s0], 0, u1⟩) (r := []) rfl (fr_S_I m t0 g0 o0 c0 s0 s1 (by omega)) (fun x hx => by simpa [enT, enS, Value.ownBlock] using hx) (by simp [Good, xTold, xA, xSend]) (by simp)
  have hI1 := ComeR.some (a := ⟨enS m t1 (.slice (some ⟨g1, o1, none⟩) 1 c1) s1, [fI s0, fA], 0, u1⟩) (b := ⟨enT m t0 g0 o0 s0, [], 1, u0⟩) (r := [fA]) rfl (fr_S_I m t1 g1 o1 c1 s1 s0 (by omega)) (fun x hx => by simpa [enT, enS, Value.ownBlock] using hx) (by simp [Good, xTold, xA, xSend]) (by simp)
  have hA0 := ComeR.some (a := ⟨enT m t0 g0 o0 s0, [fA], 1, u0⟩) (b := ⟨enT m t1 g1 o1 s1, [fA], 1, u1⟩) (r := []) rfl (fr_T_A m t0 g0 o0 s0) (fun x hx => by simpa [enT, enU, Value.ownBlock] using hx) (by simp [Good, xTimer]) (by simp)
  have hA1 := ComeR.some (a := ⟨enT m t1 g1 o1 s1, [fA], 1, u1⟩) (b := ⟨enU m t0 g0 o0, [], 1, u0⟩) (r := []) rfl (fr_T_A m t1 g1 o1 s1) (fun x hx => by simpa [enT, enU, Value.ownBlock] using hx) (by simp [Good, xTimer]) (by simp)
  exact DrainR.more hI0 hI1 rfl (DrainR.more hA0 hA1 rfl (DrainR.stop rfl rfl))
set_option maxHeartbeats 4000000 in
set_option maxRecDepth 100000 in
theorem links_any (w : World) (HT : Tabs w) : Calls Tryz.prog 5 #[] w fun en w' => en = .returned (.bool true) ∧ Below w.heap.size w w' := by
  have hf := fun (st tries vs va vr s l : Int) (asked r0 r3 : Bool) W => field_state (st := st) (tries := tries) (vs := vs) (va := va) (vr := vr) (s := s) (l := l) (asked := asked) (r0 := r0) (r3 := r3) W
  have HTT := Lib.hid HT
  clear HT
  go_enter Tryz.func5, Tryz.ntmps5
  go_wp2_with fail
  refine (begin_any 3 (Or.inl rfl) _ HTT.out).mono ?_
  rintro en w1 ⟨p, rfl, h1⟩
  have H1 := Lib.hid h1
  clear h1
  go_wp2_with fail
  refine (askEst_0 3 _ H1.out rfl (by decide)).mono ?_
  rintro en w2 ⟨rfl, h2⟩
  have H2 := Lib.hid h2
  clear h2
  go_wp2_with fail
  refine (drain_any _ HTT.out H2.out links_drain (by decide) (by decide)).mono ?_
  rintro en w3 ⟨rfl, h3⟩
  obtain ⟨A, B, er, hP⟩ := h3
  have p0 := at_cell hP.box 0
  simp only [pairCells, List.getElem?_toArray, List.getElem?_cons_zero, List.getElem?_cons_succ] at p0
  have HP := Lib.hid hP
  clear hP
  go_wp2_with fail
  refine (eview_any _ _ _ _ _ _ _ HP.out.sa.en).mono ?_
  rintro en w4 ⟨rfl, b4⟩
  have hP4 := HP.out.keep b4 HP.out.hZ
  have p1 := at_cell hP4.box 1
  simp only [pairCells, List.getElem?_toArray, List.getElem?_cons_zero, List.getElem?_cons_succ] at p1
  have HP4 := Lib.hid hP4
  clear hP4 b4 p0
  unfold evG
  simp only [enO, FS.zero]
  go_wp2_with fail
  refine (eview_any _ _ _ _ _ _ _ HP4.out.sb.en).mono ?_
  rintro en w5 ⟨rfl, b5⟩
  have hP5 := HP4.out.keep b5 HP4.out.hZ
  have p13 := at_cell hP5.box 13
  have p14 := at_cell hP5.box 14
  simp only [pairCells, List.getElem?_toArray, List.getElem?_cons_zero, List.getElem?_cons_succ] at p13 p14
  have HP5 := Lib.hid hP5
  clear hP5 b5 p1
  unfold evG
  simp only [enO, FS.zero]
  go_wp2
  go_ret
  exact ⟨rfl, HP5.out.bel⟩
end Go.Proofs.YtlfcfmdblmedcaaGreatDoor.Mine
