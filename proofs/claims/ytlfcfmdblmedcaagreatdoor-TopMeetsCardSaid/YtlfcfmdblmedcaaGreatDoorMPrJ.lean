/- A side's user sends a payload (send), for either side (written by wip/prj.py). -/
import Derived.Test.YtlfcfmdblmedcaaGreatDoorMPrF
namespace Go.Proofs.YtlfcfmdblmedcaaGreatDoor.Mine
open Go.RowKit Go.Maps Go.Proofs.YtlfcfmdblmedcaaGreatDoorW.PrintWords
set_option linter.unusedSimpArgs false
theorem pay2 (w : World) (a b : Int) : (convert 75 9 (.slice (some ⟨w.heap.size, 0, none⟩) 2 2)).run Tryz.prog (w.alloc (.cells #[.int .u8 a, .int .u8 b] 5)) = .ok (.string (strOfNums [a, b])) (w.alloc (.cells #[.int .u8 a, .int .u8 b] 5)) :=
  run_convert_bytes_arg _ 75 5 (by kernel_rfl) (by kernel_rfl) w.heap.size 0 2 2 [a, b] rfl (fun i hi => by
    have h := at_cell (at_new w (.cells #[.int .u8 a, .int .u8 b] 5)) (0 + i)
    rw [h]
    rcases i with _ | _ | i
    · rfl
    · rfl
    · omega) _ (by kernel_rfl)
theorem pay2d (w : World) (a b : Int) : (convert 75 9 (.slice (some ⟨w.heap.size, 0, none⟩) 2 2)).run Tryz.prog (w.alloc (.cells #[.int .u8 a, .int .u8 b] 5)).drew = .ok (.string (strOfNums [a, b])) (w.alloc (.cells #[.int .u8 a, .int .u8 b] 5)).drew := pay2 w.drew a b
theorem lv_ok {g o cp x : Nat} {w : World} (hg : w.heap.size ≤ g) (h : (Value.slice (some ⟨g, o, none⟩) 1 cp).ownBlock = some x) : w.heap.size ≤ x := by
  simp [Value.ownBlock] at h
  omega
set_option maxHeartbeats 4000000 in
set_option maxRecDepth 100000 in
theorem send_0 {W0 : World} {X : List (Nat × Array Value)} {p : Nat} {a b : SG} {c : Nat} (m : Int) (t : Nat) (w : World) (h : PairAt W0.heap.size W0 X p false a b c 0 w) (hE : a.E = enO m t) (hc : c ≤ 900000000) :
    Calls Tryz.prog 11 #[.pointer (some ⟨p, 0, none⟩), .int .i64 0, .int .i64 2] w fun en w' => en = .returned (.bool true) ∧ ∃ (g o cp : Nat) (s : ByteArray), s.size = 2 ∧ PairAt W0.heap.size W0 X p false { a with E := enS m t (.slice (some ⟨g, o, none⟩) 1 cp) s } { b with F := b.F ++ [fI s] } (c + 40) 1 w' := by
  obtain ⟨⟨Ae, Arb, Afl, Aq, Atov, Atkv, Atdv⟩, B, er, hPI⟩ := h
  have pnx := at_cell hPI.box 17
  simp only [pairCells, List.getElem?_toArray, List.getElem?_cons_zero, List.getElem?_cons_succ] at pnx
  have plt := lt_of_at hPI.box
  have hcv := fun W a b => pay2 W a b
  have hcd := fun W a b => pay2d W a b
  have HE := Lib.hid hE
  have HP := Lib.hid hPI
  clear hPI hE
  go_enter Tryz.func11, Tryz.ntmps11
  go_wp2_with fail
  go_region
  have hs : (strOfNums [0, 0]).size = 2 := strOfNums_size _
  generalize strOfNums [0, 0] = s at *
  have hp1 := HP.out.keep (((Below.refl _ w).alloc (Nat.le_refl _) (.cells #[.int .u8 0, .int .u8 0] 5)).drew) HP.out.hZ
  clear hcv hcd pnx plt
  generalize (w.alloc (.cells #[.int .u8 0, .int .u8 0] 5)).drew = W1 at *
  have plt := lt_of_at hp1.box
  have pnx := at_cell hp1.box 17
  have fnx := at_frozen hp1.box 17
  have pen := at_cell hp1.box 0
  simp only [pairCells, List.getElem?_toArray, List.getElem?_cons_zero, List.getElem?_cons_succ] at pnx pen
  have HP2 := Lib.hid (hp1.setNx 1)
  have HS := Lib.hid hs
  clear hp1 hs
  go_wp2_with fail
  refine (ask_data m t s _ (HE.out ▸ HP2.out.sa.en) HS.out (by omega)).mono ?_
  rintro en w2 ⟨g, o, cp, hg, v2, rfl, t2, e2, o2⟩
  obtain ⟨A1, cp1, rfl, _⟩ := t2.slice
  have hp3 := HP2.out.call (c' := c + 10) e2 (by omega) o2 (fun x hx => Or.inr (lv_ok hg hx))
  have T2 := Lib.hid t2
  clear t2 e2 o2 hg pen pnx fnx plt
  obtain ⟨nk, xsk, hnk, htk⟩ := hp3.sa.tk
  obtain ⟨tkA, tkc, htkv, _⟩ := htk.slice
  dsimp only at htkv htk
  subst htkv
  have plt := lt_of_at hp3.box
  have ptk := at_cell hp3.box 4
  have ftk := at_frozen hp3.box 4
  simp only [pairCells, List.getElem?_toArray, List.getElem?_cons_zero, List.getElem?_cons_succ] at ptk
  have hZ := hp3.hZ
  have HP3 := Lib.hid hp3.drew
  have HTK := Lib.hid (htk.keep (w' := w2.drew) (fun _ _ => rfl))
  have HT3 := Lib.hid (T2.out.keep (w' := w2.drew) (fun _ _ => rfl))
  clear hp3 htk
  go_wp2_with fail
  go_region_law (refine step_append_tail (W := w2.drew) W0.heap.size rfl _ _ 41 60 _ 2 24 rfl Tryz.underlying41 infoPe rfl (by decide) (.slice tkA nk tkc) nk xsk [.string s, .bool true] (by simp [Act.eval]) (by simp [Act.eval]) rfl (by simp [Value.oneCell']) HTK.out (by simpa using hZ) (by omega) (by decide) ?_; intro v3 w3 ht hg hat; obtain ⟨A2, c2, rfl, _⟩ := ht.slice; have hb := HP3.out.boxG hg (fun x hx => Or.inl (Ad.mem_fp.2 (by simp [hx]))); have hq := hb.1.trans HP3.out.box; have d := at_cell hq 4; have fd := at_frozen hq 4; simp only [pairCells, List.getElem?_toArray, List.getElem?_cons_zero, List.getElem?_cons_succ] at d; have HP4 := Lib.hid (HP3.out.tkA hnk ht hg hat); have HR4 := Lib.hid ((HT3.out.effs (w := w2.drew) HTK.out (by decide) hg).effp (i := 4) (u := .slice A2 (nk + 1) c2) hq); clear hb hq ht hg hat)
  all_goals (
    go_wp2_with fail
    refine (effects_0 [xI s, xTimer 10 203, xTimer 9 200] _ ⟨_, _, _, HP4.out⟩ HR4.out (by simp [Good, xI, xSend, xTimer]) (by simp) (by omega)).mono ?_
    rintro en w5 ⟨rfl, h5⟩
    have H5 := Lib.hid h5
    clear h5
    go_wp2
    go_ret
    exact ⟨rfl, g, o, cp, s, HS.out, H5.out.more (by omega)⟩)
set_option maxHeartbeats 4000000 in
set_option maxRecDepth 100000 in
theorem send_1 {W0 : World} {X : List (Nat × Array Value)} {p : Nat} {a b : SG} {c : Nat} (m : Int) (t : Nat) (w : World) (h : PairAt W0.heap.size W0 X p true a b c 1 w) (hE : a.E = enO m t) (hc : c ≤ 900000000) :
    Calls Tryz.prog 11 #[.pointer (some ⟨p, 0, none⟩), .int .i64 1, .int .i64 2] w fun en w' => en = .returned (.bool true) ∧ ∃ (g o cp : Nat) (s : ByteArray), s.size = 2 ∧ PairAt W0.heap.size W0 X p true { a with E := enS m t (.slice (some ⟨g, o, none⟩) 1 cp) s } { b with F := b.F ++ [fI s] } (c + 40) 2 w' := by
  obtain ⟨⟨Ae, Arb, Afl, Aq, Atov, Atkv, Atdv⟩, B, er, hPI⟩ := h
  have pnx := at_cell hPI.box 17
  simp only [pairCells, List.getElem?_toArray, List.getElem?_cons_zero, List.getElem?_cons_succ] at pnx
  have plt := lt_of_at hPI.box
  have hcv := fun W a b => pay2 W a b
  have hcd := fun W a b => pay2d W a b
  have HE := Lib.hid hE
  have HP := Lib.hid hPI
  clear hPI hE
  go_enter Tryz.func11, Tryz.ntmps11
  go_wp2_with fail
  go_region
  have hs : (strOfNums [1, 0]).size = 2 := strOfNums_size _
  generalize strOfNums [1, 0] = s at *
  have hp1 := HP.out.keep (((Below.refl _ w).alloc (Nat.le_refl _) (.cells #[.int .u8 1, .int .u8 0] 5)).drew) HP.out.hZ
  clear hcv hcd pnx plt
  generalize (w.alloc (.cells #[.int .u8 1, .int .u8 0] 5)).drew = W1 at *
  have plt := lt_of_at hp1.box
  have pnx := at_cell hp1.box 17
  have fnx := at_frozen hp1.box 17
  have pen := at_cell hp1.box 1
  simp only [pairCells, List.getElem?_toArray, List.getElem?_cons_zero, List.getElem?_cons_succ] at pnx pen
  have HP2 := Lib.hid (hp1.setNx 2)
  have HS := Lib.hid hs
  clear hp1 hs
  go_wp2_with fail
  refine (ask_data m t s _ (HE.out ▸ HP2.out.sa.en) HS.out (by omega)).mono ?_
  rintro en w2 ⟨g, o, cp, hg, v2, rfl, t2, e2, o2⟩
  obtain ⟨A1, cp1, rfl, _⟩ := t2.slice
  have hp3 := HP2.out.call (c' := c + 10) e2 (by omega) o2 (fun x hx => Or.inr (lv_ok hg hx))
  have T2 := Lib.hid t2
  clear t2 e2 o2 hg pen pnx fnx plt
  obtain ⟨nk, xsk, hnk, htk⟩ := hp3.sa.tk
  obtain ⟨tkA, tkc, htkv, _⟩ := htk.slice
  dsimp only at htkv htk
  subst htkv
  have plt := lt_of_at hp3.box
  have ptk := at_cell hp3.box 5
  have ftk := at_frozen hp3.box 5
  simp only [pairCells, List.getElem?_toArray, List.getElem?_cons_zero, List.getElem?_cons_succ] at ptk
  have hZ := hp3.hZ
  have HP3 := Lib.hid hp3.drew
  have HTK := Lib.hid (htk.keep (w' := w2.drew) (fun _ _ => rfl))
  have HT3 := Lib.hid (T2.out.keep (w' := w2.drew) (fun _ _ => rfl))
  clear hp3 htk
  go_wp2_with fail
  go_region_law (refine step_append_tail (W := w2.drew) W0.heap.size rfl _ _ 41 60 _ 2 24 rfl Tryz.underlying41 infoPe rfl (by decide) (.slice tkA nk tkc) nk xsk [.string s, .bool true] (by simp [Act.eval]) (by simp [Act.eval]) rfl (by simp [Value.oneCell']) HTK.out (by simpa using hZ) (by omega) (by decide) ?_; intro v3 w3 ht hg hat; obtain ⟨A2, c2, rfl, _⟩ := ht.slice; have hb := HP3.out.boxG hg (fun x hx => Or.inl (Ad.mem_fp.2 (by simp [hx]))); have hq := hb.1.trans HP3.out.box; have d := at_cell hq 5; have fd := at_frozen hq 5; simp only [pairCells, List.getElem?_toArray, List.getElem?_cons_zero, List.getElem?_cons_succ] at d; have HP4 := Lib.hid (HP3.out.tkA hnk ht hg hat); have HR4 := Lib.hid ((HT3.out.effs (w := w2.drew) HTK.out (by decide) hg).effp (i := 5) (u := .slice A2 (nk + 1) c2) hq); clear hb hq ht hg hat)
  all_goals (
    go_wp2_with fail
    refine (effects_1 [xI s, xTimer 10 203, xTimer 9 200] _ ⟨_, _, _, HP4.out⟩ HR4.out (by simp [Good, xI, xSend, xTimer]) (by simp) (by omega)).mono ?_
    rintro en w5 ⟨rfl, h5⟩
    have H5 := Lib.hid h5
    clear h5
    go_wp2
    go_ret
    exact ⟨rfl, g, o, cp, s, HS.out, H5.out.more (by omega)⟩)
end Go.Proofs.YtlfcfmdblmedcaaGreatDoor.Mine
