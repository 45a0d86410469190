/- The contracts of an entity's tell, told, start, stop, done, up. -/
import Derived.Test.YtlfcfmdblmedcaaGreatDoorMFlowB
namespace Go.Proofs.YtlfcfmdblmedcaaGreatDoor.Mine
open Go.RowKit Go.Maps Go.Proofs.YtlfcfmdblmedcaaGreatDoorW.PrintWords
section
variable {X : List (Nat × Array Value)} {w0 : World} {e rb fl q : Nat} {most st tei tries : Int} {asked r0 r3 : Bool} {c : Nat} {φ : FS} {ov : Value} {out : List XE}
set_option maxHeartbeats 1000000 in
theorem tell_any (x : XE) (w : World) (h : EnI X w0 w e rb fl q most st tei tries asked r0 r3 c φ ov out) (hl : out.length ≤ 1000) :
    Calls Tryz.prog 72 #[.pointer (some ⟨e, 0, none⟩), .agg x.vals.toArray] w fun en w' => en = .returned (.tuple #[]) ∧ ∃ ov', EnI X w0 w' e rb fl q most st tei tries asked r0 r3 c φ ov' (out ++ [x]) := by
  obtain ⟨xk, xt, xc, xf, xp, xn, xr, xi, xd, xm⟩ := x
  simp only [XE.vals]
  obtain ⟨c0, c1, c2, c3, c4, c5, c6, c7, c8⟩ := h.cells
  have hlt := h.lt.1
  have H := Lib.hid (h.alloc (.cells #[.int .i64 xk, .int .i64 0, .int .i64 xt, .bool xc, .int .i64 xf, .bool xp, .int .i64 xn, .int .i64 xr, .string xi, .string xd, .int .i64 xm] 98))
  clear h c0 c1 c2 c3 c4 c5 c6 c7
  go_enter Tryz.func72, Tryz.ntmps72
  go_wp2_with fail
  go_region_law (refine step_append_tail (W := (w.alloc (.cells #[.int .i64 xk, .int .i64 0, .int .i64 xt, .bool xc, .int .i64 xf, .bool xp, .int .i64 xn, .int .i64 xr, .string xi, .string xd, .int .i64 xm] 98)).drew) w0.heap.size rfl _ _ 54 98 _ 11 104 rfl Tryz.underlying54 infoXE rfl (by decide) ov out.length (rowOf XE.vals out) (XE.vals ⟨xk, xt, xc, xf, xp, xn, xr, xi, xd, xm⟩) (by simp [Act.eval]) (by simp [Act.eval]) rfl (XE.cell1 _) H.out.drew.row H.out.drew.size (by omega) (by decide) ?_; intro v1 w1 ht hg _; obtain ⟨A1, c1, rfl, _⟩ := ht.slice; obtain ⟨⟨d8, f8⟩, hE⟩ := H.out.drew.grown ht hg; have HE := Lib.hid hE; clear hE ht hg)
  all_goals (
    go_end0
    exact ⟨rfl, _, HE.out⟩)
-- written by enb.py
theorem told_any (k : Int) (d : ByteArray) (w : World) (h : EnI X w0 w e rb fl q most st tei tries asked r0 r3 c φ ov out) (hl : out.length ≤ 1000) :
    Calls Tryz.prog 38 #[.pointer (some ⟨e, 0, none⟩), .int .i64 k, .string d] w fun en w' => en = .returned (.tuple #[]) ∧ ∃ ov', EnI X w0 w' e rb fl q most st tei tries asked r0 r3 c φ ov' (out ++ [xTold k d]) := by
  have H := Lib.hid h
  clear h
  go_enter Tryz.func38, Tryz.ntmps38
  go_wp2_with fail
  refine (tell_any (xTold k d) _ H.out hl).mono ?_
  rintro en w1 ⟨rfl, ov1, h1⟩
  have H1 := Lib.hid h1
  clear h1
  go_wp2
  go_end0
  exact ⟨rfl, _, H1.out⟩
theorem done_any (w : World) (h : EnI X w0 w e rb fl q most st tei tries asked r0 r3 c φ ov out) :
    Calls Tryz.prog 25 #[.pointer (some ⟨e, 0, none⟩)] w fun en w' => en = .returned ov ∧ EnI X w0 w' e rb fl q most st tei tries asked r0 r3 c φ (.slice none 0 0) [] ∧ Tail w' w0.heap.size 98 11 ov out.length (rowOf XE.vals out) := by
  obtain ⟨c0, c1, c2, c3, c4, c5, c6, c7, c8⟩ := h.cells
  have f8 := h.froz 8
  obtain ⟨A, cp, rfl, _⟩ := h.row.slice
  have ht := h.row.keep (w' := w.setCell ⟨e, 8, none⟩ (.slice none 0 0)) (fun b hb => Below.heap_setCell _ _ _ _ (by rintro rfl; exact h.row.ne h.box (by decide) hb))
  have H := Lib.hid h.setOut
  have HT := Lib.hid ht
  clear h c0 c1 c2 c3 c4 c5 c6 c7 ht
  go_enter Tryz.func25, Tryz.ntmps25
  go_wp2
  go_ret
  exact ⟨rfl, H.out, HT.out⟩
theorem up_any (w : World) (h : EnI X w0 w e rb fl q most st tei tries asked r0 r3 c φ ov out) :
    Calls Tryz.prog 66 #[.pointer (some ⟨e, 0, none⟩)] w fun en w' => en = .returned (.bool (st == 7 || st == 8)) ∧ w' = w := by
  obtain ⟨c0, c1, c2, c3, c4, c5, c6, c7, c8⟩ := h.cells
  clear h c0 c2 c3 c4 c5 c6 c7 c8
  by_cases h7 : (st == 7) = true
  · go_enter Tryz.func66, Tryz.ntmps66
    go_wp2
    go_ret
    exact ⟨ret_bool (by simp [h7]), rfl⟩
  · have h7' : (st == 7) = false := by simpa using h7
    clear h7
    go_enter Tryz.func66, Tryz.ntmps66
    go_wp2
    go_ret
    exact ⟨ret_bool (by simp [h7']), rfl⟩
theorem start_0 (w : World) (h : EnI X w0 w e rb fl q most st tei tries asked r0 r3 c φ ov out) (hl : out.length ≤ 1000) (hc : c ≤ 2000000000) :
    Calls Tryz.prog 52 #[.pointer (some ⟨e, 0, none⟩), .int .i64 200] w fun en w' => en = .returned (.tuple #[]) ∧ ∃ ov', EnI X w0 w' e rb fl q most st tei tries asked true r3 (c + 1) φ ov' (out ++ [xTimer 9 200]) := by
  obtain ⟨c0, c1, c2, c3, c4, c5, c6, c7, c8⟩ := h.cells
  obtain ⟨n, hn, hr⟩ := h.runs
  have H := Lib.hid (h.more (Nat.le_succ c))
  have HR := Lib.hid hr
  clear h c0 c1 c2 c3 c4 c6 c7 c8 hr
  go_enter Tryz.func52, Tryz.ntmps52
  go_wp2_with (at_mapUpdate; refine wpList_store_run rfl _ _ _ rfl HR.out 200 true rfl rfl rfl (by decide) (by unfold maxLen; omega) ?_)
  intro w1 hr1 k1
  rw [rf_put0] at hr1
  have H1 := Lib.hid (H.out.timer (by omega : n + 1 ≤ c + 1) hr1 k1)
  clear hr1 k1
  go_wp2_with fail
  refine (tell_any (xTimer 9 200) _ H1.out hl).mono ?_
  rintro en w2 ⟨rfl, ov2, h2⟩
  have H2 := Lib.hid h2
  clear h2
  go_wp2
  go_end0
  exact ⟨rfl, _, H2.out⟩
/-- The timer runs: it is stopped. -/
theorem stop_0 (w : World) (h : EnI X w0 w e rb fl q most st tei tries asked true r3 c φ ov out) (hl : out.length ≤ 1000) (hc : c ≤ 2000000000) :
    Calls Tryz.prog 51 #[.pointer (some ⟨e, 0, none⟩), .int .i64 200] w fun en w' => en = .returned (.tuple #[]) ∧ ∃ ov', EnI X w0 w' e rb fl q most st tei tries asked false r3 (c + 1) φ ov' (out ++ [xTimer 10 200]) := by
  obtain ⟨c0, c1, c2, c3, c4, c5, c6, c7, c8⟩ := h.cells
  obtain ⟨n, hn, hr⟩ := h.runs
  have hlook := hr.look 200 (by decide)
  rw [rf_0] at hlook
  have H := Lib.hid (h.more (Nat.le_succ c))
  have HR := Lib.hid hr
  clear h c0 c1 c2 c3 c4 c6 c7 c8 hr
  go_enter Tryz.func51, Tryz.ntmps51
  go_wp2_with (at_mapUpdate; refine wpList_store_run rfl _ _ _ rfl HR.out 200 false rfl rfl rfl (by decide) (by unfold maxLen; omega) ?_)
  intro w1 hr1 k1
  rw [rf_put0] at hr1
  have H1 := Lib.hid (H.out.timer (by omega : n + 1 ≤ c + 1) hr1 k1)
  clear hr1 k1 hlook
  go_wp2_with fail
  refine (tell_any (xTimer 10 200) _ H1.out hl).mono ?_
  rintro en w2 ⟨rfl, ov2, h2⟩
  have H2 := Lib.hid h2
  clear h2
  go_wp2
  go_end0
  exact ⟨rfl, _, H2.out⟩
/-- It doesn't run. -/
theorem stopN_0 (w : World) (h : EnI X w0 w e rb fl q most st tei tries asked false r3 c φ ov out) :
    Calls Tryz.prog 51 #[.pointer (some ⟨e, 0, none⟩), .int .i64 200] w fun en w' => en = .returned (.tuple #[]) ∧ w' = w := by
  obtain ⟨c0, c1, c2, c3, c4, c5, c6, c7, c8⟩ := h.cells
  obtain ⟨n, hn, hr⟩ := h.runs
  have hlook := hr.look 200 (by decide)
  rw [rf_0] at hlook
  clear h c0 c1 c2 c3 c4 c6 c7 c8 hr
  go_enter Tryz.func51, Tryz.ntmps51
  go_wp2
  go_end0
  exact ⟨rfl, rfl⟩
theorem start_3 (w : World) (h : EnI X w0 w e rb fl q most st tei tries asked r0 r3 c φ ov out) (hl : out.length ≤ 1000) (hc : c ≤ 2000000000) :
    Calls Tryz.prog 52 #[.pointer (some ⟨e, 0, none⟩), .int .i64 203] w fun en w' => en = .returned (.tuple #[]) ∧ ∃ ov', EnI X w0 w' e rb fl q most st tei tries asked r0 true (c + 1) φ ov' (out ++ [xTimer 9 203]) := by
  obtain ⟨c0, c1, c2, c3, c4, c5, c6, c7, c8⟩ := h.cells
  obtain ⟨n, hn, hr⟩ := h.runs
  have H := Lib.hid (h.more (Nat.le_succ c))
  have HR := Lib.hid hr
  clear h c0 c1 c2 c3 c4 c6 c7 c8 hr
  go_enter Tryz.func52, Tryz.ntmps52
  go_wp2_with (at_mapUpdate; refine wpList_store_run rfl _ _ _ rfl HR.out 203 true rfl rfl rfl (by decide) (by unfold maxLen; omega) ?_)
  intro w1 hr1 k1
  rw [rf_put3] at hr1
  have H1 := Lib.hid (H.out.timer (by omega : n + 1 ≤ c + 1) hr1 k1)
  clear hr1 k1
  go_wp2_with fail
  refine (tell_any (xTimer 9 203) _ H1.out hl).mono ?_
  rintro en w2 ⟨rfl, ov2, h2⟩
  have H2 := Lib.hid h2
  clear h2
  go_wp2
  go_end0
  exact ⟨rfl, _, H2.out⟩
/-- The timer runs: it is stopped. -/
theorem stop_3 (w : World) (h : EnI X w0 w e rb fl q most st tei tries asked r0 true c φ ov out) (hl : out.length ≤ 1000) (hc : c ≤ 2000000000) :
    Calls Tryz.prog 51 #[.pointer (some ⟨e, 0, none⟩), .int .i64 203] w fun en w' => en = .returned (.tuple #[]) ∧ ∃ ov', EnI X w0 w' e rb fl q most st tei tries asked r0 false (c + 1) φ ov' (out ++ [xTimer 10 203]) := by
  obtain ⟨c0, c1, c2, c3, c4, c5, c6, c7, c8⟩ := h.cells
  obtain ⟨n, hn, hr⟩ := h.runs
  have hlook := hr.look 203 (by decide)
  rw [rf_3] at hlook
  have H := Lib.hid (h.more (Nat.le_succ c))
  have HR := Lib.hid hr
  clear h c0 c1 c2 c3 c4 c6 c7 c8 hr
  go_enter Tryz.func51, Tryz.ntmps51
  go_wp2_with (at_mapUpdate; refine wpList_store_run rfl _ _ _ rfl HR.out 203 false rfl rfl rfl (by decide) (by unfold maxLen; omega) ?_)
  intro w1 hr1 k1
  rw [rf_put3] at hr1
  have H1 := Lib.hid (H.out.timer (by omega : n + 1 ≤ c + 1) hr1 k1)
  clear hr1 k1 hlook
  go_wp2_with fail
  refine (tell_any (xTimer 10 203) _ H1.out hl).mono ?_
  rintro en w2 ⟨rfl, ov2, h2⟩
  have H2 := Lib.hid h2
  clear h2
  go_wp2
  go_end0
  exact ⟨rfl, _, H2.out⟩
/-- It doesn't run. -/
theorem stopN_3 (w : World) (h : EnI X w0 w e rb fl q most st tei tries asked r0 false c φ ov out) :
    Calls Tryz.prog 51 #[.pointer (some ⟨e, 0, none⟩), .int .i64 203] w fun en w' => en = .returned (.tuple #[]) ∧ w' = w := by
  obtain ⟨c0, c1, c2, c3, c4, c5, c6, c7, c8⟩ := h.cells
  obtain ⟨n, hn, hr⟩ := h.runs
  have hlook := hr.look 203 (by decide)
  rw [rf_3] at hlook
  clear h c0 c1 c2 c3 c4 c6 c7 c8 hr
  go_enter Tryz.func51, Tryz.ntmps51
  go_wp2
  go_end0
  exact ⟨rfl, rfl⟩
end
end Go.Proofs.YtlfcfmdblmedcaaGreatDoor.Mine
/- The contracts of an entity's sendData, send, supervise, inquire. -/
namespace Go.Proofs.YtlfcfmdblmedcaaGreatDoor.Mine
open Go.RowKit Go.Maps Go.Proofs.YtlfcfmdblmedcaaGreatDoorW.PrintWords

theorem field_vs {a b c s l : Int} {x y z : Bool} (W : World) : (Instr.field 36 (.agg #[.int .i64 a, .int .i64 b, .int .i64 c, .bool x, .bool y, .bool z, .int .i64 s, .int .i64 l]) 0).run Tryz.prog W = .ok (.int .i64 a) W := by kernel_rfl
theorem field_va {a b c s l : Int} {x y z : Bool} (W : World) : (Instr.field 36 (.agg #[.int .i64 a, .int .i64 b, .int .i64 c, .bool x, .bool y, .bool z, .int .i64 s, .int .i64 l]) 1).run Tryz.prog W = .ok (.int .i64 b) W := by kernel_rfl
theorem field_vr {a b c s l : Int} {x y z : Bool} (W : World) : (Instr.field 36 (.agg #[.int .i64 a, .int .i64 b, .int .i64 c, .bool x, .bool y, .bool z, .int .i64 s, .int .i64 l]) 2).run Tryz.prog W = .ok (.int .i64 c) W := by kernel_rfl
theorem field_peer {a b c s l : Int} {x y z : Bool} (W : World) : (Instr.field 36 (.agg #[.int .i64 a, .int .i64 b, .int .i64 c, .bool x, .bool y, .bool z, .int .i64 s, .int .i64 l]) 3).run Tryz.prog W = .ok (.bool x) W := by kernel_rfl
theorem field_own {a b c s l : Int} {x y z : Bool} (W : World) : (Instr.field 36 (.agg #[.int .i64 a, .int .i64 b, .int .i64 c, .bool x, .bool y, .bool z, .int .i64 s, .int .i64 l]) 4).run Tryz.prog W = .ok (.bool y) W := by kernel_rfl
theorem field_sent {a b c s l : Int} {x y z : Bool} (W : World) : (Instr.field 36 (.agg #[.int .i64 a, .int .i64 b, .int .i64 c, .bool x, .bool y, .bool z, .int .i64 s, .int .i64 l]) 6).run Tryz.prog W = .ok (.int .i64 s) W := by kernel_rfl
/-- A store into a block of another kind that is new. -/
theorem EnI.far {X : List (Nat × Array Value)} {w0 w : World} {e rb fl q : Nat} {most st tei tries : Int} {asked r0 r3 : Bool} {c : Nat} {φ : FS} {ov : Value} {out : List XE} (h : EnI X w0 w e rb fl q most st tei tries asked r0 r3 c φ ov out) {b : Nat} {cs : Array Value} {t : TypeId} (hb : w.heap[b]? = some (.cells cs t (0, 0)))
    (hB : w0.heap.size ≤ b) (h4 : 98 ≠ t) (h5 : 9 ≠ t) (h6 : ∀ x, x ∈ X → x.1 ≠ b) (i : Nat) (v : Value) : EnI X w0 (w.setCell ⟨b, i, none⟩ v) e rb fl q most st tei tries asked r0 r3 c φ ov out := by
  obtain ⟨n, hn, hr⟩ := h.runs
  have ho := h.old
  have far : ∀ k, k ≠ b → (w.setCell ⟨b, i, none⟩ v).heap[k]? = w.heap[k]? := fun k hk => Below.heap_setCell _ _ _ _ hk
  refine ⟨(far _ (by omega)).trans h.box, ⟨n, hn, hr.move (far _ (by omega))⟩, h.flow.move (far _ (by omega)) (far _ (by omega)) (fun k hk => far _ ?_), h.row.keep (fun k hk => far _ ?_), h.only.setCell (Or.inr hB) _, h.old, fun x hx => (far _ (h6 x hx)).trans (h.boxes x hx)⟩
  · rintro rfl
    exact h.flow.row.ne hb h5 hk
  · rintro rfl
    exact h.row.ne hb h4 hk
section
variable {X : List (Nat × Array Value)} {w0 : World} {e rb fl q : Nat} {most st tries : Int} {asked r0 r3 : Bool} {c : Nat} {φ : FS} {ov : Value} {out : List XE}
set_option maxHeartbeats 1000000 in
theorem sendData_u (k : Int) (cmd pf : Bool) (ns : Int) (info : ByteArray) (w : World) (h : EnI X w0 w e rb fl q most st 70 tries asked r0 r3 c φ ov out) (hk : 4 ≤ k) (hl : out.length ≤ 1000) :
    Calls Tryz.prog 49 #[.pointer (some ⟨e, 0, none⟩), .int .i64 k, .bool cmd, .bool pf, .int .i64 ns, .string info] w fun en w' => en = .returned (.tuple #[]) ∧ ∃ ov', EnI X w0 w' e rb fl q most st 70 tries asked r0 r3 c φ ov' (out ++ [xSend cmd k pf ns 0 info]) := by
  obtain ⟨c0, c1, c2, c3, c4, c5, c6, c7, c8⟩ := h.cells
  have hlt := h.lt.1
  have hkk : decide (0 ≤ k ∧ k ≤ 3) = false := by simp; omega
  have H := Lib.hid h
  clear h c0 c1 c3 c4 c5 c6 c7 c8
  go_enter Tryz.func49, Tryz.ntmps49
  go_wp2_with fail
  refine (numbered_any _ _).mono ?_
  rw [hkk]
  rintro en w1 ⟨rfl, rfl⟩
  clear hkk
  go_wp2_with fail
  refine (tell_any (xSend cmd k pf ns 0 info) _ (H.out.alloc _) hl).mono ?_
  rintro en w2 ⟨rfl, ov2, h2⟩
  have H2 := Lib.hid h2
  clear h2
  go_wp2
  go_end0
  exact ⟨rfl, _, H2.out⟩
set_option maxHeartbeats 2000000 in
theorem sendData_n (k : Int) (cmd pf : Bool) (ns : Int) (info : ByteArray) (w : World) (h : EnI X w0 w e rb fl q most st 70 tries asked r0 r3 c φ ov out) (hk : 0 ≤ k ∧ k ≤ 3) (hl : out.length ≤ 1000) :
    Calls Tryz.prog 49 #[.pointer (some ⟨e, 0, none⟩), .int .i64 k, .bool cmd, .bool pf, .int .i64 ns, .string info] w fun en w' => en = .returned (.tuple #[]) ∧ ∃ ov', EnI X w0 w' e rb fl q most st 70 tries asked r0 r3 c φ ov' (out ++ [xSend cmd k pf ns φ.vr info]) := by
  obtain ⟨c0, c1, c2, c3, c4, c5, c6, c7, c8⟩ := h.cells
  have hlt := h.lt.1
  have hkk : decide (0 ≤ k ∧ k ≤ 3) = true := by simpa using hk
  have hf := fun (a b c s l : Int) (x y z : Bool) W => field_vr (a := a) (b := b) (c := c) (s := s) (l := l) (x := x) (y := y) (z := z) W
  have H := Lib.hid h
  have HK := Lib.hid hk
  clear h c0 c1 c3 c4 c5 c6 c8 hk
  go_enter Tryz.func49, Tryz.ntmps49
  go_wp2_with fail
  refine (numbered_any _ _).mono ?_
  rw [hkk]
  rintro en w1 ⟨rfl, rfl⟩
  clear hkk
  go_wp2_with fail
  refine (fview_g fl q φ _ (H.out.alloc _).flow).mono ?_
  rintro en w2 ⟨rfl, b2⟩
  have h2 := (H.out.alloc (.cells #[.int .i64 0, .int .i64 70, .bool cmd, .int .i64 k, .bool pf, .int .i64 ns, .int .i64 0, .string info] 66)).keep b2
  have hx : w2.heap[w.heap.size]? = some (.cells #[.int .i64 0, .int .i64 70, .bool cmd, .int .i64 k, .bool pf, .int .i64 ns, .int .i64 0, .string info] 66 (0, 0)) := (b2.block _ (by simp)).trans (at_new w _)
  have x0 := at_cell hx 0
  have x1 := at_cell hx 1
  have x2 := at_cell hx 2
  have x3 := at_cell hx 3
  have x4 := at_cell hx 4
  have x5 := at_cell hx 5
  have x6 := at_cell hx 6
  have x7 := at_cell hx 7
  have z6 := at_frozen hx 6
  simp only [List.getElem?_toArray, List.getElem?_cons_zero, List.getElem?_cons_succ] at x0 x1 x2 x3 x4 x5 x6 x7
  have h3 : EnI X w0 (w2.setCell ⟨w.heap.size, 6, none⟩ (.int .i64 φ.vr)) e rb fl q most st 70 tries asked r0 r3 c φ ov out := by
    exact h2.far hx H.out.size (by decide) (by decide) (fun x hx => Nat.ne_of_lt (H.out.xlt x hx)) 6 _
  have H3 := Lib.hid h3
  clear b2 h2 hx h3 c2 c7
  unfold fvG
  go_wp2_with fail
  refine (tell_any (xSend cmd k pf ns φ.vr info) _ H3.out hl).mono ?_
  rintro en w4 ⟨rfl, ov4, h4⟩
  have H4 := Lib.hid h4
  clear h4
  go_wp2
  go_end0
  exact ⟨rfl, _, H4.out⟩
theorem send_u (k : Int) (cmd pf : Bool) (w : World) (h : EnI X w0 w e rb fl q most st 70 tries asked r0 r3 c φ ov out) (hk : 4 ≤ k) (hl : out.length ≤ 1000) :
    Calls Tryz.prog 50 #[.pointer (some ⟨e, 0, none⟩), .int .i64 k, .bool cmd, .bool pf] w fun en w' => en = .returned (.tuple #[]) ∧ ∃ ov', EnI X w0 w' e rb fl q most st 70 tries asked r0 r3 c φ ov' (out ++ [xSend cmd k pf 0 0 ⟨#[]⟩]) := by
  have H := Lib.hid h
  have HK := Lib.hid hk
  clear h hk
  go_enter Tryz.func50, Tryz.ntmps50
  go_wp2_with fail
  refine (sendData_u k cmd pf 0 ⟨#[]⟩ _ H.out HK.out hl).mono ?_
  rintro en w1 ⟨rfl, ov1, h1⟩
  have H1 := Lib.hid h1
  clear h1
  go_wp2
  go_end0
  exact ⟨rfl, _, H1.out⟩
theorem send_n (k : Int) (cmd pf : Bool) (w : World) (h : EnI X w0 w e rb fl q most st 70 tries asked r0 r3 c φ ov out) (hk : 0 ≤ k ∧ k ≤ 3) (hl : out.length ≤ 1000) :
    Calls Tryz.prog 50 #[.pointer (some ⟨e, 0, none⟩), .int .i64 k, .bool cmd, .bool pf] w fun en w' => en = .returned (.tuple #[]) ∧ ∃ ov', EnI X w0 w' e rb fl q most st 70 tries asked r0 r3 c φ ov' (out ++ [xSend cmd k pf 0 φ.vr ⟨#[]⟩]) := by
  have H := Lib.hid h
  have HK := Lib.hid hk
  clear h hk
  go_enter Tryz.func50, Tryz.ntmps50
  go_wp2_with fail
  refine (sendData_n k cmd pf 0 ⟨#[]⟩ _ H.out HK.out hl).mono ?_
  rintro en w1 ⟨rfl, ov1, h1⟩
  have H1 := Lib.hid h1
  clear h1
  go_wp2
  go_end0
  exact ⟨rfl, _, H1.out⟩
/-- An RR: this side is never busy. -/
theorem supervise_any (cmd pf : Bool) (w : World) (h : EnI X w0 w e rb fl q most st 70 tries asked r0 r3 c φ ov out) (hl : out.length ≤ 1000) :
    Calls Tryz.prog 70 #[.pointer (some ⟨e, 0, none⟩), .bool cmd, .bool pf] w fun en w' => en = .returned (.tuple #[]) ∧ ∃ ov', EnI X w0 w' e rb fl q most st 70 tries asked r0 r3 c φ ov' (out ++ [xSend cmd 1 pf 0 φ.vr ⟨#[]⟩]) := by
  obtain ⟨c0, c1, c2, c3, c4, c5, c6, c7, c8⟩ := h.cells
  have hf := fun (a b c s l : Int) (x y z : Bool) W => field_own (a := a) (b := b) (c := c) (s := s) (l := l) (x := x) (y := y) (z := z) W
  have H := Lib.hid h
  clear h c0 c1 c2 c3 c4 c5 c6 c8
  go_enter Tryz.func70, Tryz.ntmps70
  go_wp2_with fail
  refine (fview_g fl q φ _ H.out.flow).mono ?_
  rintro en w1 ⟨rfl, b1⟩
  have H1 := Lib.hid (H.out.keep b1)
  clear b1 c7
  unfold fvG
  go_wp2_with fail
  refine (send_n 1 cmd pf _ H1.out (by decide) hl).mono ?_
  rintro en w2 ⟨rfl, ov2, h2⟩
  have H2 := Lib.hid h2
  clear h2
  go_wp2
  go_end0
  exact ⟨rfl, _, H2.out⟩
theorem inquire_any (w : World) (h : EnI X w0 w e rb fl q most st 70 tries asked r0 r3 c φ ov out) (hl : out.length ≤ 900) (hc : c ≤ 2000000000) :
    Calls Tryz.prog 44 #[.pointer (some ⟨e, 0, none⟩)] w fun en w' => en = .returned (.tuple #[]) ∧ ∃ ov', EnI X w0 w' e rb fl q most st 70 tries asked true r3 (c + 1) φ ov' (out ++ [xSend true 1 true 0 φ.vr ⟨#[]⟩] ++ [xTimer 9 200]) := by
  have H := Lib.hid h
  clear h
  go_enter Tryz.func44, Tryz.ntmps44
  go_wp2_with fail
  refine (supervise_any true true _ H.out (by omega)).mono ?_
  rintro en w1 ⟨rfl, ov1, h1⟩
  have H1 := Lib.hid h1
  clear h1
  go_wp2_with fail
  refine (start_0 _ H1.out (by simp; omega) hc).mono ?_
  rintro en w2 ⟨rfl, ov2, h2⟩
  have H2 := Lib.hid h2
  clear h2
  go_wp2
  go_end0
  exact ⟨rfl, _, H2.out⟩
/-- The link is asked for: from Assigned (no timer runs). -/
theorem call_any (w : World) (h : EnI X w0 w e rb fl q most st 70 tries asked r0 false c φ ov out) (hl : out.length ≤ 900) (hc : c ≤ 2000000000) :
    Calls Tryz.prog 24 #[.pointer (some ⟨e, 0, none⟩)] w fun en w' => en = .returned (.tuple #[]) ∧ ∃ ov', EnI X w0 w' e rb fl q most 5 70 0 asked true false (c + 1) φ ov' (out ++ [xSend true 4 true 0 0 ⟨#[]⟩] ++ [xTimer 9 200]) := by
  obtain ⟨c0, c1, c2, c3, c4, c5, c6, c7, c8⟩ := h.cells
  have f3 := h.froz 3
  have H := Lib.hid (h.setTries 0)
  clear h c0 c1 c2 c4 c5 c6 c7 c8
  go_enter Tryz.func24, Tryz.ntmps24
  go_wp2_with fail
  refine (send_u 4 true true _ H.out (by decide) (by omega)).mono ?_
  rintro en w1 ⟨rfl, ov1, h1⟩
  have H1 := Lib.hid h1
  clear h1 c3 f3
  go_wp2_with fail
  refine (stopN_3 _ H1.out).mono ?_
  rintro en w1' ⟨rfl, rfl⟩
  go_wp2_with fail
  refine (start_0 _ H1.out (by simp; omega) hc).mono ?_
  rintro en w2 ⟨rfl, ov2, h2⟩
  obtain ⟨c0, c1, c2, c3, c4, c5, c6, c7, c8⟩ := h2.cells
  have f1 := h2.froz 1
  have H2 := Lib.hid (h2.setSt 5)
  clear h2 c0 c2 c3 c4 c5 c6 c7 c8
  go_wp2
  go_end0
  exact ⟨rfl, _, H2.out⟩
end
end Go.Proofs.YtlfcfmdblmedcaaGreatDoor.Mine
/- The contracts of an entity's goOn, open, count. -/
namespace Go.Proofs.YtlfcfmdblmedcaaGreatDoor.Mine
open Go.RowKit Go.Maps Go.Proofs.YtlfcfmdblmedcaaGreatDoorW.PrintWords
theorem EnI.flowTurn {X : List (Nat × Array Value)} {w0 w w' : World} {e rb fl q : Nat} {most st tei tries : Int} {asked r0 r3 : Bool} {c : Nat} {φ φ' : FS} {ov : Value} {out : List XE} {S : List Nat} (h : EnI X w0 w e rb fl q most st tei tries asked r0 r3 c φ ov out) (hf : FlowAt w' fl q φ') (k : Only S w w') (hS : ∀ x ∈ S, x = fl ∨ x = q) : EnI X w0 w' e rb fl q most st tei tries asked r0 r3 c φ' ov out := by
  refine h.turn hf (fun b hb h1 h2 _ => k.block b hb (fun hm => ?_)) (h.only.trans (k.mono (fun x hx => ?_)))
  · rcases hS b hm with h | h
    · exact h1 h
    · exact h2 h
  · rcases hS x hx with rfl | rfl <;> simp
section
variable {X : List (Nat × Array Value)} {w0 : World} {e rb fl q : Nat} {most st tries : Int} {asked r0 r3 : Bool} {c : Nat} {φ : FS} {ov : Value} {out : List XE}
set_option maxHeartbeats 1000000 in
theorem goOn_none (w : World) (h : EnI X w0 w e rb fl q most 7 70 tries asked r0 r3 c φ ov out) (hz : φ.ps.length = φ.sent) :
    Calls Tryz.prog 68 #[.pointer (some ⟨e, 0, none⟩)] w fun en w' => en = .returned (.tuple #[]) ∧ ∃ n, w' = w.drewN n := by
  have H := Lib.hid h
  have HZ := Lib.hid hz
  clear h hz
  go_enter Tryz.func68, Tryz.ntmps68
  go_wp2_with fail
  go_loopw [] (fun wr => w = wr) (fun _ => 0)
  case atStart => rfl
  case round =>
    subst hrel
    obtain ⟨c0, c1, c2, c3, c4, c5, c6, c7, c8⟩ := H.out.cells
    clear c0 c2 c3 c4 c5 c6 c8
    go_wp2_with fail
    refine (takeNone_g fl q φ _ H.out.flow HZ.out).mono ?_
    rintro en w1 ⟨rfl, n, rfl⟩
    go_wp2
    refine bodyPost_ret (results_none rfl _ _ _) rfl ?_
    exact ⟨rfl, _, rfl⟩
theorem open_1 (w : World) (h : EnI X w0 w e rb fl q most st 70 tries asked true r3 c FS.zero ov out) (hl : out.length ≤ 900) (hc : c ≤ 1900000000) :
    Calls Tryz.prog 74 #[.pointer (some ⟨e, 0, none⟩)] w fun en w' => en = .returned (.tuple #[]) ∧ ∃ ov', EnI X w0 w' e rb fl q most 7 70 tries asked false true (c + 1 + 1) FS.zero ov' (out ++ [xTimer 10 200] ++ [xTimer 9 203]) := by
  obtain ⟨c0, c1, c2, c3, c4, c5, c6, c7, c8⟩ := h.cells
  have H := Lib.hid h
  clear h c0 c1 c2 c3 c4 c5 c6 c8
  go_enter Tryz.func74, Tryz.ntmps74
  go_wp2_with fail
  refine (reset_z fl q 7 256 _ H.out.flow.z).mono ?_
  rintro en w1 ⟨rfl, m, rfl⟩
  have H1 := Lib.hid (H.out.drewN m)
  clear c7
  go_wp2_with fail
  refine (stop_0 _ H1.out (by omega) (by omega)).mono ?_
  rintro en w2 ⟨rfl, ov2, h2⟩
  have H2 := Lib.hid h2
  clear h2
  go_wp2_with fail
  refine (start_3 _ H2.out (by first | omega | (simp; omega)) (by omega)).mono ?_
  rintro en w3 ⟨rfl, ov3, h3⟩
  obtain ⟨c0, c1, c2, c3, c4, c5, c6, c7, c8⟩ := h3.cells
  have f1 := h3.froz 1
  have H3 := Lib.hid (h3.setSt 7)
  clear h3 c0 c2 c3 c4 c5 c6 c7 c8
  go_wp2_with fail
  refine (goOn_none _ H3.out rfl).mono ?_
  rintro en w4 ⟨rfl, m4, rfl⟩
  have H4 := Lib.hid (H3.out.drewN m4)
  clear c1 f1
  go_wp2
  go_end0
  exact ⟨rfl, _, H4.out⟩
theorem open_0 (w : World) (h : EnI X w0 w e rb fl q most st 70 tries asked false r3 c FS.zero ov out) (hl : out.length ≤ 900) (hc : c ≤ 1900000000) :
    Calls Tryz.prog 74 #[.pointer (some ⟨e, 0, none⟩)] w fun en w' => en = .returned (.tuple #[]) ∧ ∃ ov', EnI X w0 w' e rb fl q most 7 70 tries asked false true (c + 1) FS.zero ov' (out ++ [xTimer 9 203]) := by
  obtain ⟨c0, c1, c2, c3, c4, c5, c6, c7, c8⟩ := h.cells
  have H := Lib.hid h
  clear h c0 c1 c2 c3 c4 c5 c6 c8
  go_enter Tryz.func74, Tryz.ntmps74
  go_wp2_with fail
  refine (reset_z fl q 7 256 _ H.out.flow.z).mono ?_
  rintro en w1 ⟨rfl, m, rfl⟩
  have H1 := Lib.hid (H.out.drewN m)
  clear c7
  go_wp2_with fail
  refine (stopN_0 _ H1.out).mono ?_
  rintro en w2 ⟨rfl, rfl⟩
  have H2 := H1
  go_wp2_with fail
  refine (start_3 _ H2.out (by first | omega | (simp; omega)) (by omega)).mono ?_
  rintro en w3 ⟨rfl, ov3, h3⟩
  obtain ⟨c0, c1, c2, c3, c4, c5, c6, c7, c8⟩ := h3.cells
  have f1 := h3.froz 1
  have H3 := Lib.hid (h3.setSt 7)
  clear h3 c0 c2 c3 c4 c5 c6 c7 c8
  go_wp2_with fail
  refine (goOn_none _ H3.out rfl).mono ?_
  rintro en w4 ⟨rfl, m4, rfl⟩
  have H4 := Lib.hid (H3.out.drewN m4)
  clear c1 f1
  go_wp2
  go_end0
  exact ⟨rfl, _, H4.out⟩
/-- All that was sent is answered. -/
theorem countEq_1 (nr : Int) (w : World) (h : EnI X w0 w e rb fl q most st 70 tries asked true r3 c φ ov out) (hl : out.length ≤ 900) (hc : c ≤ 1900000000) (hv : φ.va = φ.vs) :
    Calls Tryz.prog 96 #[.pointer (some ⟨e, 0, none⟩), .int .i64 nr] w fun en w' => en = .returned (.tuple #[]) ∧ ∃ ov', EnI X w0 w' e rb fl q most st 70 tries asked false true (c + 1 + 1) φ ov' (out ++ [xTimer 10 200] ++ [xTimer 9 203]) := by
  obtain ⟨c0, c1, c2, c3, c4, c5, c6, c7, c8⟩ := h.cells
  have hlt := h.lt.1
  have H := Lib.hid h
  have HV := Lib.hid hv
  clear h c0 c1 c2 c3 c4 c5 c6 c8 hv
  go_enter Tryz.func96, Tryz.ntmps96
  go_wp2_with fail
  refine (fview_g fl q φ _ H.out.flow).mono ?_
  rintro en w1 ⟨rfl, b1⟩
  unfold fvG
  rw [HV.out]
  have H1 := Lib.hid ((H.out.keep b1).alloc (.cells #[.int .i64 φ.vs, .int .i64 φ.vs, .int .i64 φ.vr, .bool false, .bool false, .bool false, .int .i64 φ.sent, .int .i64 ((φ.ps.length : Int) - (φ.sent : Int))] 36))
  clear c7 b1
  go_wp2_with fail
  refine (stop_0 _ H1.out (by omega) (by omega)).mono ?_
  rintro en w2 ⟨rfl, ov2, h2⟩
  have H2 := Lib.hid h2
  clear h2
  go_wp2_with fail
  refine (start_3 _ H2.out (by first | omega | (simp; omega)) (by omega)).mono ?_
  rintro en w3 ⟨rfl, ov3, h3⟩
  have H3 := Lib.hid h3
  clear h3
  go_wp2
  go_end0
  exact ⟨rfl, _, H3.out⟩
/-- All that was sent is answered. -/
theorem countEq_0 (nr : Int) (w : World) (h : EnI X w0 w e rb fl q most st 70 tries asked false r3 c φ ov out) (hl : out.length ≤ 900) (hc : c ≤ 1900000000) (hv : φ.va = φ.vs) :
    Calls Tryz.prog 96 #[.pointer (some ⟨e, 0, none⟩), .int .i64 nr] w fun en w' => en = .returned (.tuple #[]) ∧ ∃ ov', EnI X w0 w' e rb fl q most st 70 tries asked false true (c + 1) φ ov' (out ++ [xTimer 9 203]) := by
  obtain ⟨c0, c1, c2, c3, c4, c5, c6, c7, c8⟩ := h.cells
  have hlt := h.lt.1
  have H := Lib.hid h
  have HV := Lib.hid hv
  clear h c0 c1 c2 c3 c4 c5 c6 c8 hv
  go_enter Tryz.func96, Tryz.ntmps96
  go_wp2_with fail
  refine (fview_g fl q φ _ H.out.flow).mono ?_
  rintro en w1 ⟨rfl, b1⟩
  unfold fvG
  rw [HV.out]
  have H1 := Lib.hid ((H.out.keep b1).alloc (.cells #[.int .i64 φ.vs, .int .i64 φ.vs, .int .i64 φ.vr, .bool false, .bool false, .bool false, .int .i64 φ.sent, .int .i64 ((φ.ps.length : Int) - (φ.sent : Int))] 36))
  clear c7 b1
  go_wp2_with fail
  refine (stopN_0 _ H1.out).mono ?_
  rintro en w2 ⟨rfl, rfl⟩
  have H2 := H1
  go_wp2_with fail
  refine (start_3 _ H2.out (by first | omega | (simp; omega)) (by omega)).mono ?_
  rintro en w3 ⟨rfl, ov3, h3⟩
  have H3 := Lib.hid h3
  clear h3
  go_wp2
  go_end0
  exact ⟨rfl, _, H3.out⟩
/-- Some is not answered, and nothing new is: nothing is done. -/
theorem countNe (w : World) (h : EnI X w0 w e rb fl q most st 70 tries asked r0 r3 c φ ov out) (hv : φ.va = 0 ∧ φ.vs = 1) :
    Calls Tryz.prog 96 #[.pointer (some ⟨e, 0, none⟩), .int .i64 0] w fun en w' => en = .returned (.tuple #[]) ∧ EnI X w0 w' e rb fl q most st 70 tries asked r0 r3 c φ ov out := by
  obtain ⟨c0, c1, c2, c3, c4, c5, c6, c7, c8⟩ := h.cells
  have hlt := h.lt.1
  have H := Lib.hid h
  have HV := Lib.hid hv
  clear h c0 c1 c2 c3 c4 c5 c6 c8 hv
  go_enter Tryz.func96, Tryz.ntmps96
  go_wp2_with fail
  refine (fview_g fl q φ _ H.out.flow).mono ?_
  rintro en w1 ⟨rfl, b1⟩
  unfold fvG
  rw [HV.out.1, HV.out.2]
  have H1 := Lib.hid ((H.out.keep b1).alloc (.cells #[.int .i64 1, .int .i64 0, .int .i64 φ.vr, .bool false, .bool false, .bool false, .int .i64 φ.sent, .int .i64 ((φ.ps.length : Int) - (φ.sent : Int))] 36))
  clear c7 b1
  go_wp2
  go_end0
  exact ⟨rfl, H1.out⟩
set_option maxHeartbeats 1000000 in
/-- A payload waits: it is sent. -/
theorem goOn_some (g o cp : Nat) (s : ByteArray) (w : World) (h : EnI X w0 w e rb fl q most 7 70 tries asked false true c ⟨0, 0, 0, .slice (some ⟨g, o, none⟩) 1 cp, [s], 0⟩ ov out) (hl : out.length ≤ 900) (hc : c ≤ 1900000000) :
    Calls Tryz.prog 68 #[.pointer (some ⟨e, 0, none⟩)] w fun en w' => en = .returned (.tuple #[]) ∧ ∃ ov', EnI X w0 w' e rb fl q most 7 70 tries asked true false (c + 1 + 1) ⟨1, 0, 0, .slice (some ⟨g, o, none⟩) 1 cp, [s], 1⟩ ov' (out ++ [xSend true 0 false 0 0 s] ++ [xTimer 10 203] ++ [xTimer 9 200]) := by
  have H := Lib.hid h
  clear h
  go_enter Tryz.func68, Tryz.ntmps68
  go_wp2_with fail
  go_loopw [] (fun wr => w = wr ∨ ∃ ov', EnI X w0 wr e rb fl q most 7 70 tries asked true false (c + 1 + 1) ⟨1, 0, 0, .slice (some ⟨g, o, none⟩) 1 cp, [s], 1⟩ ov' (out ++ [xSend true 0 false 0 0 s] ++ [xTimer 10 203] ++ [xTimer 9 200])) (fun wr => match wr.cell? ⟨fl, 0, none⟩ with | some (.int .i64 0) => 1 | _ => 0)
  case atStart => exact Or.inl rfl
  case round =>
    rcases hrel with rfl | ⟨ov', h⟩
    · obtain ⟨c0, c1, c2, c3, c4, c5, c6, c7, c8⟩ := H.out.cells
      have hm : w.cell? ⟨fl, 0, none⟩ = some (.int .i64 0) := H.out.flow.cells.1
      have HM := Lib.hid hm
      clear c0 c2 c3 c4 c5 c6 c8 hm
      go_wp2_with fail
      refine (take_d fl q g o cp s _ H.out.flow).mono ?_
      rintro en w1 ⟨rfl, hf1, k1⟩
      have H1 := Lib.hid (H.out.flowTurn hf1 k1 (by simp))
      clear c1 c7 hf1 k1
      go_wp2_with fail
      refine (sendData_n 0 true false 0 s _ H1.out (by decide) (by omega)).mono ?_
      rintro en w2 ⟨rfl, ov2, h2⟩
      obtain ⟨n, hn, hr⟩ := h2.runs
      have hlook := hr.look 200 (by decide)
      rw [rf_0] at hlook
      obtain ⟨c0, c1, c2, c3, c4, c5, c6, c7, c8⟩ := h2.cells
      have H2 := Lib.hid h2
      clear h2 hr c0 c1 c2 c3 c4 c6 c7 c8
      go_wp2_with fail
      refine (stop_3 _ H2.out (by first | omega | (simp; omega)) (by omega)).mono ?_
      rintro en w3 ⟨rfl, ov3, h3⟩
      have H3 := Lib.hid h3
      clear h3 c5 hlook
      go_wp2_with fail
      refine (start_0 _ H3.out (by first | omega | (simp; omega)) (by omega)).mono ?_
      rintro en w4 ⟨rfl, ov4, h4⟩
      have H4 := Lib.hid h4
      clear h4
      go_wp2
      go_roundw
      case rel => exact Or.inr ⟨_, H4.out⟩
      case measure =>
        have e1 : w4.cell? ⟨fl, 0, none⟩ = some (.int .i64 1) := H4.out.flow.cells.1
        rw [HM.out, e1]
        decide
    · have H1 := Lib.hid h
      obtain ⟨c0, c1, c2, c3, c4, c5, c6, c7, c8⟩ := h.cells
      clear h c0 c2 c3 c4 c5 c6 c8
      go_wp2_with fail
      refine (takeNone_g fl q _ _ H1.out.flow rfl).mono ?_
      rintro en w1 ⟨rfl, n, rfl⟩
      have H2 := Lib.hid (H1.out.drewN n)
      clear c1 c7
      go_wp2
      refine bodyPost_ret (results_none rfl _ _ _) rfl ?_
      exact ⟨rfl, _, H2.out⟩
end
end Go.Proofs.YtlfcfmdblmedcaaGreatDoor.Mine
