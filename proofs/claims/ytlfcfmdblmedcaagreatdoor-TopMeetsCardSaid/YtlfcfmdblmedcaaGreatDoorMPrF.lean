/- A side's user asks; the timers are over (ask, over), for either side (written by wip/prf.py). -/
import Derived.Test.YtlfcfmdblmedcaaGreatDoorMPrE
namespace Go.Proofs.YtlfcfmdblmedcaaGreatDoor.Mine
open Go.RowKit Go.Maps Go.Proofs.YtlfcfmdblmedcaaGreatDoorW.PrintWords
set_option linter.unusedSimpArgs false
theorem PairAt.swap {Z : Nat} {W0 w : World} {X : List (Nat × Array Value)} {p : Nat} {k : Bool} {a b : SG} {c : Nat} {nx : Int} (h : PairAt Z W0 X p k a b c nx w) : PairAt Z W0 X p (!k) b a c nx w := by
  obtain ⟨A, B, er, h⟩ := h
  exact ⟨B, A, er, h.swap⟩
set_option maxHeartbeats 4000000 in
set_option maxRecDepth 100000 in
/-- A link is asked for. -/
theorem askEst_0 {W0 : World} {X : List (Nat × Array Value)} {p : Nat} {a b : SG} {c : Nat} {nx : Int} (N : Int) (w : World) (h : PairAt W0.heap.size W0 X p false a b c nx w) (hE : a.E = enA N) (hc : c ≤ 900000000) :
    Calls Tryz.prog 6 #[.pointer (some ⟨p, 0, none⟩), .int .i64 0, .int .i64 0] w fun en w' => en = .returned (.tuple #[]) ∧ PairAt W0.heap.size W0 X p false { a with E := enC N 0 } { b with F := b.F ++ [fS] } (c + 40) nx w' := by
  obtain ⟨⟨Ae, Arb, Afl, Aq, Atov, Atkv, Atdv⟩, B, er, hPI⟩ := h
  have pen := at_cell hPI.box 0
  simp only [pairCells, List.getElem?_toArray, List.getElem?_cons_zero, List.getElem?_cons_succ] at pen
  have HE := Lib.hid hE
  have HP := Lib.hid hPI
  clear hPI hE
  go_enter Tryz.func6, Tryz.ntmps6
  go_wp2_with fail
  refine (ask_est N _ (HE.out ▸ HP.out.sa.en) (by omega)).mono ?_
  rintro en w1 ⟨v1, rfl, t1, e1, o1⟩
  obtain ⟨A1, cp1, rfl, _⟩ := t1.slice
  have hp1 := HP.out.call (c' := c + 10) e1 (by omega) o1 (fun x hx => by simp [enC, FS.zero, Value.ownBlock] at hx)
  have T1 := Lib.hid t1
  clear t1 e1 o1 pen
  obtain ⟨nk, xsk, hnk, htk⟩ := hp1.sa.tk
  obtain ⟨tkA, tkc, htkv, _⟩ := htk.slice
  dsimp only at htkv htk
  subst htkv
  have plt := lt_of_at hp1.box
  have ptk := at_cell hp1.box 4
  have ftk := at_frozen hp1.box 4
  simp only [pairCells, List.getElem?_toArray, List.getElem?_cons_zero, List.getElem?_cons_succ] at ptk
  have hZ := hp1.hZ
  have HP1 := Lib.hid hp1.drew
  have HTK := Lib.hid (htk.keep (w' := w1.drew) (fun _ _ => rfl))
  have HT1 := Lib.hid (T1.out.keep (w' := w1.drew) (fun _ _ => rfl))
  clear hp1 htk
  go_wp2_with fail
  go_region_law (refine step_append_tail (W := w1.drew) W0.heap.size rfl _ _ 41 60 _ 2 24 rfl Tryz.underlying41 infoPe rfl (by decide) (.slice tkA nk tkc) nk xsk [.string ⟨#[]⟩, .bool false] (by simp [Act.eval]) (by simp [Act.eval]) rfl (by simp [Value.oneCell']) HTK.out (by simpa using hZ) (by omega) (by decide) ?_; intro v2 w2 ht hg hat; obtain ⟨A2, c2, rfl, _⟩ := ht.slice; have hb := HP1.out.boxG hg (fun x hx => Or.inl (Ad.mem_fp.2 (by simp [hx]))); have hq := hb.1.trans HP1.out.box; have d := at_cell hq 4; have fd := at_frozen hq 4; simp only [pairCells, List.getElem?_toArray, List.getElem?_cons_zero, List.getElem?_cons_succ] at d; have HP2 := Lib.hid (HP1.out.tkA hnk ht hg hat); have HR2 := Lib.hid ((HT1.out.effs (w := w1.drew) HTK.out (by decide) hg).effp (i := 4) (u := .slice A2 (nk + 1) c2) hq); clear hb hq ht hg hat)
  all_goals (
    go_wp2_with fail
    refine (effects_0 [xS, xTimer 9 200] _ ⟨_, _, _, HP2.out⟩ HR2.out (by simp [Good, xS, xSend, xTimer]) (by decide) (by omega)).mono ?_
    rintro en w3 ⟨rfl, h3⟩
    have H3 := Lib.hid h3
    clear h3
    go_wp2
    go_end0
    exact ⟨rfl, H3.out.more (by omega)⟩)
set_option maxHeartbeats 4000000 in
/-- A side isn't busy any more. -/
theorem askReady_0 {W0 : World} {X : List (Nat × Array Value)} {p : Nat} {a b : SG} {c : Nat} {nx : Int} (w : World) (h : PairAt W0.heap.size W0 X p false a b c nx w) (hs : a.E.st = 5 ∨ a.E.st = 7 ∨ a.E.st = 8) (hφ : a.E.φ = FS.zero) (hc : c ≤ 900000000) :
    Calls Tryz.prog 6 #[.pointer (some ⟨p, 0, none⟩), .int .i64 0, .int .i64 5] w fun en w' => en = .returned (.tuple #[]) ∧ PairAt W0.heap.size W0 X p false a b (c + 30) nx w' := by
  obtain ⟨A, B, er, hPI⟩ := h
  have pen := at_cell hPI.box 0
  simp only [pairCells, List.getElem?_toArray, List.getElem?_cons_zero, List.getElem?_cons_succ] at pen
  have HP := Lib.hid hPI
  have HS := Lib.hid hs
  have HF := Lib.hid hφ
  clear hPI hs hφ
  go_enter Tryz.func6, Tryz.ntmps6
  go_wp2_with fail
  refine (ask_ready a.E _ HP.out.sa.en HS.out HF.out).mono ?_
  rintro en w1 ⟨bad, v1, rfl, t1, e1, o1⟩
  obtain ⟨A1, cp1, rfl, _⟩ := t1.slice
  have HP1 := Lib.hid (HP.out.call (c' := c + 10) e1 (by omega) o1 (fun x hx => Or.inl hx))
  have T1 := Lib.hid t1
  clear t1 e1 o1 pen
  by_cases hb : (bad == 0) = true
  · go_wp2_with fail
    refine (effects_0 [] _ ⟨_, _, _, HP1.out⟩ T1.out (by simp) (by decide) (by omega)).mono ?_
    rintro en w3 ⟨rfl, h3⟩
    have H3 := Lib.hid h3
    clear h3
    go_wp2
    go_end0
    exact ⟨rfl, H3.out⟩
  · have hb' : (bad == 0) = false := by simpa using hb
    clear hb
    go_wp2_with fail
    refine (effects_0 [] _ ⟨_, _, _, HP1.out⟩ T1.out (by simp) (by decide) (by omega)).mono ?_
    rintro en w3 ⟨rfl, h3⟩
    have H3 := Lib.hid h3
    clear h3
    go_wp2
    go_end0
    exact ⟨rfl, H3.out⟩
set_option maxHeartbeats 4000000 in
set_option maxRecDepth 100000 in
/-- Something is on its way: no timer is over. -/
theorem overNot_0 {W0 : World} {X : List (Nat × Array Value)} {p : Nat} {a b : SG} {c : Nat} {nx : Int} (w : World) (h : PairAt W0.heap.size W0 X p false a b c nx w) (hF : a.F.length + b.F.length ≠ 0) (hc : c ≤ 900000000) :
    Calls Tryz.prog 8 #[.pointer (some ⟨p, 0, none⟩), .int .i64 0] w fun en w' => en = .returned (.tuple #[]) ∧ PairAt W0.heap.size W0 X p false a b c nx w' := by
  obtain ⟨⟨Ae, Arb, Afl, Aq, Atov, Atkv, Atdv⟩, ⟨Be, Brb, Bfl, Bq, Btov, Btkv, Btdv⟩, er, hPI⟩ := h
  obtain ⟨tA, tc, hto, _⟩ := hPI.sa.tr.slice
  obtain ⟨sA, sc, hso, _⟩ := hPI.sb.tr.slice
  dsimp only at hto hso
  subst hto hso
  have p2 := at_cell hPI.box 2
  have p3 := at_cell hPI.box 3
  simp only [pairCells, List.getElem?_toArray, List.getElem?_cons_zero, List.getElem?_cons_succ] at p2 p3
  obtain ⟨na, hna⟩ : ∃ na, a.F.length = na := ⟨_, rfl⟩
  obtain ⟨nb, hnb⟩ : ∃ nb, b.F.length = nb := ⟨_, rfl⟩
  have fa := hPI.sa.few.1
  have fb := hPI.sb.few.1
  simp only [hna, hnb] at p2 p3 fa fb hF
  have q0 : ((na : Int) + (nb : Int) == 0) = false := by simp; omega
  have q1 : ((nb : Int) + (na : Int) == 0) = false := by simp; omega
  have la : (na : Int) ≤ 2000000000 := by omega
  have lb : (nb : Int) ≤ 2000000000 := by omega
  have HP := Lib.hid hPI
  clear hPI hF hna hnb fa fb
  go_enter Tryz.func8, Tryz.ntmps8
  go_wp2_with fail
  go_quiet (fail)
  go_wp2
  go_end0
  exact ⟨rfl, _, _, _, HP.out.drewN _⟩
set_option maxHeartbeats 4000000 in
set_option maxRecDepth 100000 in
/-- T200 is over, with nothing on its way. -/
theorem over200_0 {W0 : World} {X : List (Nat × Array Value)} {p : Nat} {a b : SG} {c : Nat} {nx : Int} {E' : EN} {outs : List XE} (w : World) (h : PairAt W0.heap.size W0 X p false a b c nx w) (hFa : a.F = []) (hFb : b.F = []) (hr : a.E.r0 = true) (hok : TimeOk a.E 200 E' outs) (hlv : ∀ x, E'.φ.lv.ownBlock = some x → a.E.φ.lv.ownBlock = some x) (hgd : ∀ x, x ∈ outs → Good x) (hl : outs.length ≤ 10) (hc : c ≤ 900000000) :
    Calls Tryz.prog 8 #[.pointer (some ⟨p, 0, none⟩), .int .i64 0] w fun en w' => en = .returned (.tuple #[]) ∧ PairAt W0.heap.size W0 X p false (stepA a [] E' outs) (outs.foldl effB b) (c + 30) nx w' := by
  obtain ⟨⟨Ae, Arb, Afl, Aq, Atov, Atkv, Atdv⟩, ⟨Be, Brb, Bfl, Bq, Btov, Btkv, Btdv⟩, er, hPI⟩ := h
  have htA := hPI.sa.tr
  have htB := hPI.sb.tr
  rw [hFa] at htA
  rw [hFb] at htB
  obtain ⟨tA, tc, hto, _⟩ := htA.slice
  obtain ⟨sA, sc, hso, _⟩ := htB.slice
  dsimp only [List.length_nil] at hto hso
  subst hto hso
  have p2 := at_cell hPI.box 2
  have p3 := at_cell hPI.box 3
  have pen := at_cell hPI.box 0
  simp only [pairCells, List.getElem?_toArray, List.getElem?_cons_zero, List.getElem?_cons_succ] at p2 p3 pen
  have ea : { a with E := E' } = { a with E := E', F := [] } := by rw [hFa]
  have HEA := Lib.hid ea
  have HP := Lib.hid hPI
  have HR := Lib.hid hr
  have HOK := Lib.hid hok
  have HLV := Lib.hid hlv
  have HGD := Lib.hid hgd
  clear hPI htA htB hFa hFb hr hok hlv hgd ea
  go_enter Tryz.func8, Tryz.ntmps8
  go_wp2_with fail
  go_quiet (fail)
  have hp1 := HP.out.drewN nq
  clear p2 p3 pen
  generalize w.drewN nq = W1 at *
  have pen := at_cell hp1.box 0
  simp only [pairCells, List.getElem?_toArray, List.getElem?_cons_zero, List.getElem?_cons_succ] at pen
  have HP1 := Lib.hid hp1
  clear hp1
  go_wp2_with fail
  refine (eview_any a.E _ _ _ _ _ _ HP1.out.sa.en).mono ?_
  rintro en w2 ⟨rfl, b2⟩
  unfold evG
  rw [HR.out]
  have hp2 := (HP1.out.keep b2 HP1.out.hZ)
  have hZ2 := hp2.hZ
  have plt := lt_of_at hp2.box
  have pen2 := at_cell hp2.box 0
  simp only [pairCells, List.getElem?_toArray, List.getElem?_cons_zero, List.getElem?_cons_succ] at pen2
  have HP2 := Lib.hid (hp2.keep ((Below.refl _ w2).alloc (Nat.le_refl _) (.cells #[.int .i64 a.E.st, .int .i64 70, .int .i64 a.E.tries, .bool a.E.asked, .bool true, .bool a.E.r3, .int .i64 0, .int .i64 a.E.φ.vs, .int .i64 a.E.φ.va, .int .i64 a.E.φ.vr, .bool false, .bool false, .bool false, .int .i64 a.E.φ.sent, .int .i64 ((a.E.φ.ps.length : Int) - (a.E.φ.sent : Int))] 38)) hZ2)
  clear b2 hp2 pen
  go_wp2_with fail
  refine (HOK.out _ _ _ _ _ c HP2.out.sa.en (by omega)).mono ?_
  rintro en w5 ⟨v5, rfl, t5, e5, o5⟩
  obtain ⟨A5, cp5, rfl, _⟩ := t5.slice
  have hp5 := HP2.out.call (c' := c + 10) e5 (by omega) o5 (fun x hx => Or.inl (HLV.out x hx))
  rw [HEA.out] at hp5
  have HP5 := Lib.hid hp5
  have T5 := Lib.hid t5
  clear t5 e5 o5 hp5 pen2
  go_wp2_with fail
  refine (effects_0 outs _ ⟨_, _, _, HP5.out⟩ T5.out HGD.out hl (by omega)).mono ?_
  rintro en w6 ⟨rfl, h6⟩
  have H6 := Lib.hid h6
  clear h6
  go_wp2
  go_end0
  exact ⟨rfl, H6.out.more (by omega)⟩
set_option maxHeartbeats 4000000 in
set_option maxRecDepth 100000 in
/-- T203 is over, with nothing on its way. -/
theorem over203_0 {W0 : World} {X : List (Nat × Array Value)} {p : Nat} {a b : SG} {c : Nat} {nx : Int} {E' : EN} {outs : List XE} (w : World) (h : PairAt W0.heap.size W0 X p false a b c nx w) (hFa : a.F = []) (hFb : b.F = []) (hr : a.E.r0 = false ∧ a.E.r3 = true) (hok : TimeOk a.E 203 E' outs) (hlv : ∀ x, E'.φ.lv.ownBlock = some x → a.E.φ.lv.ownBlock = some x) (hgd : ∀ x, x ∈ outs → Good x) (hl : outs.length ≤ 10) (hc : c ≤ 900000000) :
    Calls Tryz.prog 8 #[.pointer (some ⟨p, 0, none⟩), .int .i64 0] w fun en w' => en = .returned (.tuple #[]) ∧ PairAt W0.heap.size W0 X p false (stepA a [] E' outs) (outs.foldl effB b) (c + 30) nx w' := by
  obtain ⟨⟨Ae, Arb, Afl, Aq, Atov, Atkv, Atdv⟩, ⟨Be, Brb, Bfl, Bq, Btov, Btkv, Btdv⟩, er, hPI⟩ := h
  have htA := hPI.sa.tr
  have htB := hPI.sb.tr
  rw [hFa] at htA
  rw [hFb] at htB
  obtain ⟨tA, tc, hto, _⟩ := htA.slice
  obtain ⟨sA, sc, hso, _⟩ := htB.slice
  dsimp only [List.length_nil] at hto hso
  subst hto hso
  have p2 := at_cell hPI.box 2
  have p3 := at_cell hPI.box 3
  have pen := at_cell hPI.box 0
  simp only [pairCells, List.getElem?_toArray, List.getElem?_cons_zero, List.getElem?_cons_succ] at p2 p3 pen
  have ea : { a with E := E' } = { a with E := E', F := [] } := by rw [hFa]
  have HEA := Lib.hid ea
  have HP := Lib.hid hPI
  have HR := Lib.hid hr
  have HOK := Lib.hid hok
  have HLV := Lib.hid hlv
  have HGD := Lib.hid hgd
  clear hPI htA htB hFa hFb hr hok hlv hgd ea
  go_enter Tryz.func8, Tryz.ntmps8
  go_wp2_with fail
  go_quiet (fail)
  have hp1 := HP.out.drewN nq
  clear p2 p3 pen
  generalize w.drewN nq = W1 at *
  have pen := at_cell hp1.box 0
  simp only [pairCells, List.getElem?_toArray, List.getElem?_cons_zero, List.getElem?_cons_succ] at pen
  have HP1 := Lib.hid hp1
  clear hp1
  go_wp2_with fail
  refine (eview_any a.E _ _ _ _ _ _ HP1.out.sa.en).mono ?_
  rintro en w2 ⟨rfl, b2⟩
  unfold evG
  rw [HR.out.1, HR.out.2]
  have hp2 := (HP1.out.keep b2 HP1.out.hZ)
  have hZ2 := hp2.hZ
  have plt := lt_of_at hp2.box
  have pen2 := at_cell hp2.box 0
  simp only [pairCells, List.getElem?_toArray, List.getElem?_cons_zero, List.getElem?_cons_succ] at pen2
  have HP2 := Lib.hid (hp2.keep ((Below.refl _ w2).alloc (Nat.le_refl _) (.cells #[.int .i64 a.E.st, .int .i64 70, .int .i64 a.E.tries, .bool a.E.asked, .bool false, .bool true, .int .i64 0, .int .i64 a.E.φ.vs, .int .i64 a.E.φ.va, .int .i64 a.E.φ.vr, .bool false, .bool false, .bool false, .int .i64 a.E.φ.sent, .int .i64 ((a.E.φ.ps.length : Int) - (a.E.φ.sent : Int))] 38)) hZ2)
  clear b2 hp2 pen
  go_wp2_with fail
  refine (HOK.out _ _ _ _ _ c HP2.out.sa.en (by omega)).mono ?_
  rintro en w5 ⟨v5, rfl, t5, e5, o5⟩
  obtain ⟨A5, cp5, rfl, _⟩ := t5.slice
  have hp5 := HP2.out.call (c' := c + 10) e5 (by omega) o5 (fun x hx => Or.inl (HLV.out x hx))
  rw [HEA.out] at hp5
  have HP5 := Lib.hid hp5
  have T5 := Lib.hid t5
  clear t5 e5 o5 hp5 pen2
  go_wp2_with fail
  refine (effects_0 outs _ ⟨_, _, _, HP5.out⟩ T5.out HGD.out hl (by omega)).mono ?_
  rintro en w6 ⟨rfl, h6⟩
  have H6 := Lib.hid h6
  clear h6
  go_wp2
  go_end0
  exact ⟨rfl, H6.out.more (by omega)⟩
set_option maxHeartbeats 4000000 in
set_option maxRecDepth 100000 in
/-- A link is asked for. -/
theorem askEst_1 {W0 : World} {X : List (Nat × Array Value)} {p : Nat} {a b : SG} {c : Nat} {nx : Int} (N : Int) (w : World) (h : PairAt W0.heap.size W0 X p true a b c nx w) (hE : a.E = enA N) (hc : c ≤ 900000000) :
    Calls Tryz.prog 6 #[.pointer (some ⟨p, 0, none⟩), .int .i64 1, .int .i64 0] w fun en w' => en = .returned (.tuple #[]) ∧ PairAt W0.heap.size W0 X p true { a with E := enC N 0 } { b with F := b.F ++ [fS] } (c + 40) nx w' := by
  obtain ⟨⟨Ae, Arb, Afl, Aq, Atov, Atkv, Atdv⟩, B, er, hPI⟩ := h
  have pen := at_cell hPI.box 1
  simp only [pairCells, List.getElem?_toArray, List.getElem?_cons_zero, List.getElem?_cons_succ] at pen
  have HE := Lib.hid hE
  have HP := Lib.hid hPI
  clear hPI hE
  go_enter Tryz.func6, Tryz.ntmps6
  go_wp2_with fail
  refine (ask_est N _ (HE.out ▸ HP.out.sa.en) (by omega)).mono ?_
  rintro en w1 ⟨v1, rfl, t1, e1, o1⟩
  obtain ⟨A1, cp1, rfl, _⟩ := t1.slice
  have hp1 := HP.out.call (c' := c + 10) e1 (by omega) o1 (fun x hx => by simp [enC, FS.zero, Value.ownBlock] at hx)
  have T1 := Lib.hid t1
  clear t1 e1 o1 pen
  obtain ⟨nk, xsk, hnk, htk⟩ := hp1.sa.tk
  obtain ⟨tkA, tkc, htkv, _⟩ := htk.slice
  dsimp only at htkv htk
  subst htkv
  have plt := lt_of_at hp1.box
  have ptk := at_cell hp1.box 5
  have ftk := at_frozen hp1.box 5
  simp only [pairCells, List.getElem?_toArray, List.getElem?_cons_zero, List.getElem?_cons_succ] at ptk
  have hZ := hp1.hZ
  have HP1 := Lib.hid hp1.drew
  have HTK := Lib.hid (htk.keep (w' := w1.drew) (fun _ _ => rfl))
  have HT1 := Lib.hid (T1.out.keep (w' := w1.drew) (fun _ _ => rfl))
  clear hp1 htk
  go_wp2_with fail
  go_region_law (refine step_append_tail (W := w1.drew) W0.heap.size rfl _ _ 41 60 _ 2 24 rfl Tryz.underlying41 infoPe rfl (by decide) (.slice tkA nk tkc) nk xsk [.string ⟨#[]⟩, .bool false] (by simp [Act.eval]) (by simp [Act.eval]) rfl (by simp [Value.oneCell']) HTK.out (by simpa using hZ) (by omega) (by decide) ?_; intro v2 w2 ht hg hat; obtain ⟨A2, c2, rfl, _⟩ := ht.slice; have hb := HP1.out.boxG hg (fun x hx => Or.inl (Ad.mem_fp.2 (by simp [hx]))); have hq := hb.1.trans HP1.out.box; have d := at_cell hq 5; have fd := at_frozen hq 5; simp only [pairCells, List.getElem?_toArray, List.getElem?_cons_zero, List.getElem?_cons_succ] at d; have HP2 := Lib.hid (HP1.out.tkA hnk ht hg hat); have HR2 := Lib.hid ((HT1.out.effs (w := w1.drew) HTK.out (by decide) hg).effp (i := 5) (u := .slice A2 (nk + 1) c2) hq); clear hb hq ht hg hat)
  all_goals (
    go_wp2_with fail
    refine (effects_1 [xS, xTimer 9 200] _ ⟨_, _, _, HP2.out⟩ HR2.out (by simp [Good, xS, xSend, xTimer]) (by decide) (by omega)).mono ?_
    rintro en w3 ⟨rfl, h3⟩
    have H3 := Lib.hid h3
    clear h3
    go_wp2
    go_end0
    exact ⟨rfl, H3.out.more (by omega)⟩)
set_option maxHeartbeats 4000000 in
/-- A side isn't busy any more. -/
theorem askReady_1 {W0 : World} {X : List (Nat × Array Value)} {p : Nat} {a b : SG} {c : Nat} {nx : Int} (w : World) (h : PairAt W0.heap.size W0 X p true a b c nx w) (hs : a.E.st = 5 ∨ a.E.st = 7 ∨ a.E.st = 8) (hφ : a.E.φ = FS.zero) (hc : c ≤ 900000000) :
    Calls Tryz.prog 6 #[.pointer (some ⟨p, 0, none⟩), .int .i64 1, .int .i64 5] w fun en w' => en = .returned (.tuple #[]) ∧ PairAt W0.heap.size W0 X p true a b (c + 30) nx w' := by
  obtain ⟨A, B, er, hPI⟩ := h
  have pen := at_cell hPI.box 1
  simp only [pairCells, List.getElem?_toArray, List.getElem?_cons_zero, List.getElem?_cons_succ] at pen
  have HP := Lib.hid hPI
  have HS := Lib.hid hs
  have HF := Lib.hid hφ
  clear hPI hs hφ
  go_enter Tryz.func6, Tryz.ntmps6
  go_wp2_with fail
  refine (ask_ready a.E _ HP.out.sa.en HS.out HF.out).mono ?_
  rintro en w1 ⟨bad, v1, rfl, t1, e1, o1⟩
  obtain ⟨A1, cp1, rfl, _⟩ := t1.slice
  have HP1 := Lib.hid (HP.out.call (c' := c + 10) e1 (by omega) o1 (fun x hx => Or.inl hx))
  have T1 := Lib.hid t1
  clear t1 e1 o1 pen
  by_cases hb : (bad == 0) = true
  · go_wp2_with fail
    refine (effects_1 [] _ ⟨_, _, _, HP1.out⟩ T1.out (by simp) (by decide) (by omega)).mono ?_
    rintro en w3 ⟨rfl, h3⟩
    have H3 := Lib.hid h3
    clear h3
    go_wp2
    go_end0
    exact ⟨rfl, H3.out⟩
  · have hb' : (bad == 0) = false := by simpa using hb
    clear hb
    go_wp2_with fail
    refine (effects_1 [] _ ⟨_, _, _, HP1.out⟩ T1.out (by simp) (by decide) (by omega)).mono ?_
    rintro en w3 ⟨rfl, h3⟩
    have H3 := Lib.hid h3
    clear h3
    go_wp2
    go_end0
    exact ⟨rfl, H3.out⟩
set_option maxHeartbeats 4000000 in
set_option maxRecDepth 100000 in
/-- Something is on its way: no timer is over. -/
theorem overNot_1 {W0 : World} {X : List (Nat × Array Value)} {p : Nat} {a b : SG} {c : Nat} {nx : Int} (w : World) (h : PairAt W0.heap.size W0 X p true a b c nx w) (hF : a.F.length + b.F.length ≠ 0) (hc : c ≤ 900000000) :
    Calls Tryz.prog 8 #[.pointer (some ⟨p, 0, none⟩), .int .i64 1] w fun en w' => en = .returned (.tuple #[]) ∧ PairAt W0.heap.size W0 X p true a b c nx w' := by
  obtain ⟨⟨Ae, Arb, Afl, Aq, Atov, Atkv, Atdv⟩, ⟨Be, Brb, Bfl, Bq, Btov, Btkv, Btdv⟩, er, hPI⟩ := h
  obtain ⟨tA, tc, hto, _⟩ := hPI.sa.tr.slice
  obtain ⟨sA, sc, hso, _⟩ := hPI.sb.tr.slice
  dsimp only at hto hso
  subst hto hso
  have p2 := at_cell hPI.box 2
  have p3 := at_cell hPI.box 3
  simp only [pairCells, List.getElem?_toArray, List.getElem?_cons_zero, List.getElem?_cons_succ] at p2 p3
  obtain ⟨na, hna⟩ : ∃ na, a.F.length = na := ⟨_, rfl⟩
  obtain ⟨nb, hnb⟩ : ∃ nb, b.F.length = nb := ⟨_, rfl⟩
  have fa := hPI.sa.few.1
  have fb := hPI.sb.few.1
  simp only [hna, hnb] at p2 p3 fa fb hF
  have q0 : ((na : Int) + (nb : Int) == 0) = false := by simp; omega
  have q1 : ((nb : Int) + (na : Int) == 0) = false := by simp; omega
  have la : (na : Int) ≤ 2000000000 := by omega
  have lb : (nb : Int) ≤ 2000000000 := by omega
  have HP := Lib.hid hPI
  clear hPI hF hna hnb fa fb
  go_enter Tryz.func8, Tryz.ntmps8
  go_wp2_with fail
  go_quiet (fail)
  go_wp2
  go_end0
  exact ⟨rfl, _, _, _, HP.out.drewN _⟩
set_option maxHeartbeats 4000000 in
set_option maxRecDepth 100000 in
/-- T200 is over, with nothing on its way. -/
theorem over200_1 {W0 : World} {X : List (Nat × Array Value)} {p : Nat} {a b : SG} {c : Nat} {nx : Int} {E' : EN} {outs : List XE} (w : World) (h : PairAt W0.heap.size W0 X p true a b c nx w) (hFa : a.F = []) (hFb : b.F = []) (hr : a.E.r0 = true) (hok : TimeOk a.E 200 E' outs) (hlv : ∀ x, E'.φ.lv.ownBlock = some x → a.E.φ.lv.ownBlock = some x) (hgd : ∀ x, x ∈ outs → Good x) (hl : outs.length ≤ 10) (hc : c ≤ 900000000) :
    Calls Tryz.prog 8 #[.pointer (some ⟨p, 0, none⟩), .int .i64 1] w fun en w' => en = .returned (.tuple #[]) ∧ PairAt W0.heap.size W0 X p true (stepA a [] E' outs) (outs.foldl effB b) (c + 30) nx w' := by
  obtain ⟨⟨Ae, Arb, Afl, Aq, Atov, Atkv, Atdv⟩, ⟨Be, Brb, Bfl, Bq, Btov, Btkv, Btdv⟩, er, hPI⟩ := h
  have htA := hPI.sa.tr
  have htB := hPI.sb.tr
  rw [hFa] at htA
  rw [hFb] at htB
  obtain ⟨tA, tc, hto, _⟩ := htA.slice
  obtain ⟨sA, sc, hso, _⟩ := htB.slice
  dsimp only [List.length_nil] at hto hso
  subst hto hso
  have p2 := at_cell hPI.box 2
  have p3 := at_cell hPI.box 3
  have pen := at_cell hPI.box 1
  simp only [pairCells, List.getElem?_toArray, List.getElem?_cons_zero, List.getElem?_cons_succ] at p2 p3 pen
  have ea : { a with E := E' } = { a with E := E', F := [] } := by rw [hFa]
  have HEA := Lib.hid ea
  have HP := Lib.hid hPI
  have HR := Lib.hid hr
  have HOK := Lib.hid hok
  have HLV := Lib.hid hlv
  have HGD := Lib.hid hgd
  clear hPI htA htB hFa hFb hr hok hlv hgd ea
  go_enter Tryz.func8, Tryz.ntmps8
  go_wp2_with fail
  go_quiet (fail)
  have hp1 := HP.out.drewN nq
  clear p2 p3 pen
  generalize w.drewN nq = W1 at *
  have pen := at_cell hp1.box 1
  simp only [pairCells, List.getElem?_toArray, List.getElem?_cons_zero, List.getElem?_cons_succ] at pen
  have HP1 := Lib.hid hp1
  clear hp1
  go_wp2_with fail
  refine (eview_any a.E _ _ _ _ _ _ HP1.out.sa.en).mono ?_
  rintro en w2 ⟨rfl, b2⟩
  unfold evG
  rw [HR.out]
  have hp2 := (HP1.out.keep b2 HP1.out.hZ)
  have hZ2 := hp2.hZ
  have plt := lt_of_at hp2.box
  have pen2 := at_cell hp2.box 1
  simp only [pairCells, List.getElem?_toArray, List.getElem?_cons_zero, List.getElem?_cons_succ] at pen2
  have HP2 := Lib.hid (hp2.keep ((Below.refl _ w2).alloc (Nat.le_refl _) (.cells #[.int .i64 a.E.st, .int .i64 70, .int .i64 a.E.tries, .bool a.E.asked, .bool true, .bool a.E.r3, .int .i64 0, .int .i64 a.E.φ.vs, .int .i64 a.E.φ.va, .int .i64 a.E.φ.vr, .bool false, .bool false, .bool false, .int .i64 a.E.φ.sent, .int .i64 ((a.E.φ.ps.length : Int) - (a.E.φ.sent : Int))] 38)) hZ2)
  clear b2 hp2 pen
  go_wp2_with fail
  refine (HOK.out _ _ _ _ _ c HP2.out.sa.en (by omega)).mono ?_
  rintro en w5 ⟨v5, rfl, t5, e5, o5⟩
  obtain ⟨A5, cp5, rfl, _⟩ := t5.slice
  have hp5 := HP2.out.call (c' := c + 10) e5 (by omega) o5 (fun x hx => Or.inl (HLV.out x hx))
  rw [HEA.out] at hp5
  have HP5 := Lib.hid hp5
  have T5 := Lib.hid t5
  clear t5 e5 o5 hp5 pen2
  go_wp2_with fail
  refine (effects_1 outs _ ⟨_, _, _, HP5.out⟩ T5.out HGD.out hl (by omega)).mono ?_
  rintro en w6 ⟨rfl, h6⟩
  have H6 := Lib.hid h6
  clear h6
  go_wp2
  go_end0
  exact ⟨rfl, H6.out.more (by omega)⟩
set_option maxHeartbeats 4000000 in
set_option maxRecDepth 100000 in
/-- T203 is over, with nothing on its way. -/
theorem over203_1 {W0 : World} {X : List (Nat × Array Value)} {p : Nat} {a b : SG} {c : Nat} {nx : Int} {E' : EN} {outs : List XE} (w : World) (h : PairAt W0.heap.size W0 X p true a b c nx w) (hFa : a.F = []) (hFb : b.F = []) (hr : a.E.r0 = false ∧ a.E.r3 = true) (hok : TimeOk a.E 203 E' outs) (hlv : ∀ x, E'.φ.lv.ownBlock = some x → a.E.φ.lv.ownBlock = some x) (hgd : ∀ x, x ∈ outs → Good x) (hl : outs.length ≤ 10) (hc : c ≤ 900000000) :
    Calls Tryz.prog 8 #[.pointer (some ⟨p, 0, none⟩), .int .i64 1] w fun en w' => en = .returned (.tuple #[]) ∧ PairAt W0.heap.size W0 X p true (stepA a [] E' outs) (outs.foldl effB b) (c + 30) nx w' := by
  obtain ⟨⟨Ae, Arb, Afl, Aq, Atov, Atkv, Atdv⟩, ⟨Be, Brb, Bfl, Bq, Btov, Btkv, Btdv⟩, er, hPI⟩ := h
  have htA := hPI.sa.tr
  have htB := hPI.sb.tr
  rw [hFa] at htA
  rw [hFb] at htB
  obtain ⟨tA, tc, hto, _⟩ := htA.slice
  obtain ⟨sA, sc, hso, _⟩ := htB.slice
  dsimp only [List.length_nil] at hto hso
  subst hto hso
  have p2 := at_cell hPI.box 2
  have p3 := at_cell hPI.box 3
  have pen := at_cell hPI.box 1
  simp only [pairCells, List.getElem?_toArray, List.getElem?_cons_zero, List.getElem?_cons_succ] at p2 p3 pen
  have ea : { a with E := E' } = { a with E := E', F := [] } := by rw [hFa]
  have HEA := Lib.hid ea
  have HP := Lib.hid hPI
  have HR := Lib.hid hr
  have HOK := Lib.hid hok
  have HLV := Lib.hid hlv
  have HGD := Lib.hid hgd
  clear hPI htA htB hFa hFb hr hok hlv hgd ea
  go_enter Tryz.func8, Tryz.ntmps8
  go_wp2_with fail
  go_quiet (fail)
  have hp1 := HP.out.drewN nq
  clear p2 p3 pen
  generalize w.drewN nq = W1 at *
  have pen := at_cell hp1.box 1
  simp only [pairCells, List.getElem?_toArray, List.getElem?_cons_zero, List.getElem?_cons_succ] at pen
  have HP1 := Lib.hid hp1
  clear hp1
  go_wp2_with fail
  refine (eview_any a.E _ _ _ _ _ _ HP1.out.sa.en).mono ?_
  rintro en w2 ⟨rfl, b2⟩
  unfold evG
  rw [HR.out.1, HR.out.2]
  have hp2 := (HP1.out.keep b2 HP1.out.hZ)
  have hZ2 := hp2.hZ
  have plt := lt_of_at hp2.box
  have pen2 := at_cell hp2.box 1
  simp only [pairCells, List.getElem?_toArray, List.getElem?_cons_zero, List.getElem?_cons_succ] at pen2
  have HP2 := Lib.hid (hp2.keep ((Below.refl _ w2).alloc (Nat.le_refl _) (.cells #[.int .i64 a.E.st, .int .i64 70, .int .i64 a.E.tries, .bool a.E.asked, .bool false, .bool true, .int .i64 0, .int .i64 a.E.φ.vs, .int .i64 a.E.φ.va, .int .i64 a.E.φ.vr, .bool false, .bool false, .bool false, .int .i64 a.E.φ.sent, .int .i64 ((a.E.φ.ps.length : Int) - (a.E.φ.sent : Int))] 38)) hZ2)
  clear b2 hp2 pen
  go_wp2_with fail
  refine (HOK.out _ _ _ _ _ c HP2.out.sa.en (by omega)).mono ?_
  rintro en w5 ⟨v5, rfl, t5, e5, o5⟩
  obtain ⟨A5, cp5, rfl, _⟩ := t5.slice
  have hp5 := HP2.out.call (c' := c + 10) e5 (by omega) o5 (fun x hx => Or.inl (HLV.out x hx))
  rw [HEA.out] at hp5
  have HP5 := Lib.hid hp5
  have T5 := Lib.hid t5
  clear t5 e5 o5 hp5 pen2
  go_wp2_with fail
  refine (effects_1 outs _ ⟨_, _, _, HP5.out⟩ T5.out HGD.out hl (by omega)).mono ?_
  rintro en w6 ⟨rfl, h6⟩
  have H6 := Lib.hid h6
  clear h6
  go_wp2
  go_end0
  exact ⟨rfl, H6.out.more (by omega)⟩
end Go.Proofs.YtlfcfmdblmedcaaGreatDoor.Mine
