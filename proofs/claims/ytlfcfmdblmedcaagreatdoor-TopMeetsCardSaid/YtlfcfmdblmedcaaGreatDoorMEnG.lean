/- The contracts of an entity's supervised (written by wip/ene.py). -/
import Derived.Test.YtlfcfmdblmedcaaGreatDoorMEnD
import Derived.Deep.RegionWith
namespace Go.Proofs.YtlfcfmdblmedcaaGreatDoor.Mine
open Go.RowKit Go.Maps Go.Proofs.YtlfcfmdblmedcaaGreatDoorW.PrintWords
section
theorem fback_z (fl q : Nat) (k most : Int) (w : World) (h : FZ w fl q k most) :
    Calls Tryz.prog 98 #[.pointer (some ⟨fl, 0, none⟩)] w fun e w' => e = .returned (.tuple #[]) ∧ ∃ n, w' = w.drewN n := by
  obtain ⟨d0, d1, d2, d3, d4, d5, d6, d7⟩ := h.fells
  have f0 := at_frozen h.box 0
  go_enter Tryz.func98, Tryz.ntmps98
  go_wp2_with (go_at_call 105; refine (back_z fl q k most _ h).mono ?_; rintro e w1 ⟨rfl, n, rfl⟩)
  have h' := h.drew n
  rw [h'.fs0]
  go_end0
  exact ⟨rfl, n, rfl⟩
variable {X : List (Nat × Array Value)} {w0 : World} {e rb fl q : Nat} {most st tries : Int} {asked r0 r3 : Bool} {c : Nat} {φ : FS} {ov : Value} {out : List XE}
set_option maxHeartbeats 1000000 in
/-- An RR command, the link is there. -/
theorem sup_open_cmd (w : World) (h : EnI X w0 w e rb fl q most 7 70 tries asked false true c FS.zero ov out) (hl : out.length ≤ 800) (hc : c ≤ 1900000000) :
    Calls Tryz.prog 79 #[.pointer (some ⟨e, 0, none⟩), .agg #[.int .i64 0, .int .i64 70, .bool true, .int .i64 1, .bool true, .int .i64 0, .int .i64 0, .string ⟨#[]⟩]] w fun en w' => en = .returned (.tuple #[]) ∧ ∃ ov', EnI X w0 w' e rb fl q most 7 70 tries asked false true (c + 1) FS.zero ov' (out ++ [xSend false 1 true 0 0 ⟨#[]⟩] ++ [xTimer 9 203]) := by
  have H := Lib.hid (h.push #[.int .i64 0, .int .i64 70, .bool true, .int .i64 1, .bool true, .int .i64 0, .int .i64 0, .string ⟨#[]⟩])
  obtain ⟨c0, c1, c2, c3, c4, c5, c6, c7, c8⟩ := h.cells
  have hlt := h.lt.1
  clear h c0 c1 c2 c3 c4 c5 c6 c7 c8
  go_enter Tryz.func79, Tryz.ntmps79
  go_wp2_with fail
  refine (supervise_any false true _ H.out (by omega)).mono ?_
  rintro en w1 ⟨rfl, ov1, h1⟩
  obtain ⟨c0, c1, c2, c3, c4, c5, c6, c7, c8⟩ := h1.cells
  have hx := h1.top
  have x2 := at_cell hx 2
  have x3 := at_cell hx 3
  have x4 := at_cell hx 4
  have x6 := at_cell hx 6
  simp only [List.getElem?_toArray, List.getElem?_cons_zero, List.getElem?_cons_succ] at x2 x3 x4 x6
  clear hx
  have H1 := Lib.hid h1
  clear h1 c0 c2 c3 c4 c5 c6 c8
  go_wp2_with fail
  go_quiet ((go_at_call 97; exact Calls.quiet_of_same (setPeer_g fl q FS.zero _ (H1.out.drewN _).flow)))
  have hq := H1.out.drewN nq
  clear c1 c7 x2 x3 x4 x6
  generalize w1.drewN nq = W1 at *
  obtain ⟨c0, c1, c2, c3, c4, c5, c6, c7, c8⟩ := hq.cells
  have hx := hq.top
  have x2 := at_cell hx 2
  have x3 := at_cell hx 3
  have x4 := at_cell hx 4
  have x6 := at_cell hx 6
  simp only [List.getElem?_toArray, List.getElem?_cons_zero, List.getElem?_cons_succ] at x2 x3 x4 x6
  clear hx
  have Hq := Lib.hid hq
  clear hq c0 c2 c3 c4 c5 c6 c8
  go_wp2_with fail
  go_quiet ((go_at_call 95; exact Calls.quiet_of (ack_z fl q 7 256 _ (Hq.out.drewN _).flow.z)))
  go_wp2_with fail
  refine (countEq_0 0 _ (Hq.out.drewN _) (by first | omega | (simp; omega)) (by omega) rfl).mono ?_
  rintro en w2 ⟨rfl, ov2, h2⟩
  clear c1 c7 x2 x3 x4 x6
  obtain ⟨c0, c1, c2, c3, c4, c5, c6, c7, c8⟩ := h2.cells
  have H2 := Lib.hid h2
  clear h2 c0 c2 c3 c4 c5 c6 c8
  go_wp2_with fail
  refine (goOn_none _ H2.out rfl).mono ?_
  rintro en w3 ⟨rfl, m3, rfl⟩
  have H3 := Lib.hid (H2.out.drewN m3)
  clear c1 c7
  go_wp2
  refine bodyPost_ret (results_none rfl _ _ _) rfl ?_
  exact ⟨rfl, _, H3.out.drop⟩
set_option maxHeartbeats 1000000 in
/-- An RR command, in recovery. -/
theorem sup_rec_cmd (w : World) (h : EnI X w0 w e rb fl q most 8 70 tries asked true false c FS.zero ov out) (hl : out.length ≤ 800) :
    Calls Tryz.prog 79 #[.pointer (some ⟨e, 0, none⟩), .agg #[.int .i64 0, .int .i64 70, .bool true, .int .i64 1, .bool true, .int .i64 0, .int .i64 0, .string ⟨#[]⟩]] w fun en w' => en = .returned (.tuple #[]) ∧ ∃ ov', EnI X w0 w' e rb fl q most 8 70 tries asked true false (c) FS.zero ov' (out ++ [xSend false 1 true 0 0 ⟨#[]⟩]) := by
  have H := Lib.hid (h.push #[.int .i64 0, .int .i64 70, .bool true, .int .i64 1, .bool true, .int .i64 0, .int .i64 0, .string ⟨#[]⟩])
  obtain ⟨c0, c1, c2, c3, c4, c5, c6, c7, c8⟩ := h.cells
  have hlt := h.lt.1
  clear h c0 c1 c2 c3 c4 c5 c6 c7 c8
  go_enter Tryz.func79, Tryz.ntmps79
  go_wp2_with fail
  refine (supervise_any false true _ H.out (by omega)).mono ?_
  rintro en w1 ⟨rfl, ov1, h1⟩
  obtain ⟨c0, c1, c2, c3, c4, c5, c6, c7, c8⟩ := h1.cells
  have hx := h1.top
  have x2 := at_cell hx 2
  have x3 := at_cell hx 3
  have x4 := at_cell hx 4
  have x6 := at_cell hx 6
  simp only [List.getElem?_toArray, List.getElem?_cons_zero, List.getElem?_cons_succ] at x2 x3 x4 x6
  clear hx
  have H1 := Lib.hid h1
  clear h1 c0 c2 c3 c4 c5 c6 c8
  go_wp2_with fail
  go_quiet ((go_at_call 97; exact Calls.quiet_of_same (setPeer_g fl q FS.zero _ (H1.out.drewN _).flow)))
  have hq := H1.out.drewN nq
  clear c1 c7 x2 x3 x4 x6
  generalize w1.drewN nq = W1 at *
  obtain ⟨c0, c1, c2, c3, c4, c5, c6, c7, c8⟩ := hq.cells
  have hx := hq.top
  have x2 := at_cell hx 2
  have x3 := at_cell hx 3
  have x4 := at_cell hx 4
  have x6 := at_cell hx 6
  simp only [List.getElem?_toArray, List.getElem?_cons_zero, List.getElem?_cons_succ] at x2 x3 x4 x6
  clear hx
  have Hq := Lib.hid hq
  clear hq c0 c2 c3 c4 c5 c6 c8
  go_wp2_with fail
  go_quiet ((go_at_call 95; exact Calls.quiet_of (ack_z fl q 7 256 _ (Hq.out.drewN _).flow.z)))
  go_wp2_with fail
  refine bodyPost_ret (results_none rfl _ _ _) rfl ?_
  exact ⟨rfl, _, (Hq.out.drewN _).drop⟩
set_option maxHeartbeats 1000000 in
/-- A final RR that nobody asked for. -/
theorem sup_open_fin (w : World) (h : EnI X w0 w e rb fl q most 7 70 tries asked false true c FS.zero ov out) (hl : out.length ≤ 800) (hc : c ≤ 1900000000) :
    Calls Tryz.prog 79 #[.pointer (some ⟨e, 0, none⟩), .agg #[.int .i64 0, .int .i64 70, .bool false, .int .i64 1, .bool true, .int .i64 0, .int .i64 0, .string ⟨#[]⟩]] w fun en w' => en = .returned (.tuple #[]) ∧ ∃ ov', EnI X w0 w' e rb fl q most 7 70 tries asked false true (c + 1) FS.zero ov' (out ++ [xTold 7 ⟨#[65]⟩] ++ [xTimer 9 203]) := by
  have H := Lib.hid (h.push #[.int .i64 0, .int .i64 70, .bool false, .int .i64 1, .bool true, .int .i64 0, .int .i64 0, .string ⟨#[]⟩])
  obtain ⟨c0, c1, c2, c3, c4, c5, c6, c7, c8⟩ := h.cells
  have hlt := h.lt.1
  clear h c0 c2 c3 c4 c5 c6 c7 c8
  go_enter Tryz.func79, Tryz.ntmps79
  go_wp2_with fail
  refine (told_any 7 ⟨#[65]⟩ _ H.out (by omega)).mono ?_
  rintro en w1 ⟨rfl, ov1, h1⟩
  clear c1
  obtain ⟨c0, c1, c2, c3, c4, c5, c6, c7, c8⟩ := h1.cells
  have hx := h1.top
  have x2 := at_cell hx 2
  have x3 := at_cell hx 3
  have x4 := at_cell hx 4
  have x6 := at_cell hx 6
  simp only [List.getElem?_toArray, List.getElem?_cons_zero, List.getElem?_cons_succ] at x2 x3 x4 x6
  clear hx
  have H1 := Lib.hid h1
  clear h1 c0 c2 c3 c4 c5 c6 c8
  go_wp2_with fail
  go_quiet ((go_at_call 97; exact Calls.quiet_of_same (setPeer_g fl q FS.zero _ (H1.out.drewN _).flow)))
  have hq := H1.out.drewN nq
  clear c1 c7 x2 x3 x4 x6
  generalize w1.drewN nq = W1 at *
  obtain ⟨c0, c1, c2, c3, c4, c5, c6, c7, c8⟩ := hq.cells
  have hx := hq.top
  have x2 := at_cell hx 2
  have x3 := at_cell hx 3
  have x4 := at_cell hx 4
  have x6 := at_cell hx 6
  simp only [List.getElem?_toArray, List.getElem?_cons_zero, List.getElem?_cons_succ] at x2 x3 x4 x6
  clear hx
  have Hq := Lib.hid hq
  clear hq c0 c2 c3 c4 c5 c6 c8
  go_wp2_with fail
  go_quiet ((go_at_call 95; exact Calls.quiet_of (ack_z fl q 7 256 _ (Hq.out.drewN _).flow.z)))
  go_wp2_with fail
  refine (countEq_0 0 _ (Hq.out.drewN _) (by first | omega | (simp; omega)) (by omega) rfl).mono ?_
  rintro en w2 ⟨rfl, ov2, h2⟩
  clear c1 c7 x2 x3 x4 x6
  obtain ⟨c0, c1, c2, c3, c4, c5, c6, c7, c8⟩ := h2.cells
  have H2 := Lib.hid h2
  clear h2 c0 c2 c3 c4 c5 c6 c8
  go_wp2_with fail
  refine (goOn_none _ H2.out rfl).mono ?_
  rintro en w3 ⟨rfl, m3, rfl⟩
  have H3 := Lib.hid (H2.out.drewN m3)
  clear c1 c7
  go_wp2
  refine bodyPost_ret (results_none rfl _ _ _) rfl ?_
  exact ⟨rfl, _, H3.out.drop⟩
set_option maxHeartbeats 1000000 in
/-- A final RR ends the recovery. -/
theorem sup_rec_fin (w : World) (h : EnI X w0 w e rb fl q most 8 70 tries asked true false c FS.zero ov out) (hl : out.length ≤ 800) (hc : c ≤ 1900000000) :
    Calls Tryz.prog 79 #[.pointer (some ⟨e, 0, none⟩), .agg #[.int .i64 0, .int .i64 70, .bool false, .int .i64 1, .bool true, .int .i64 0, .int .i64 0, .string ⟨#[]⟩]] w fun en w' => en = .returned (.tuple #[]) ∧ ∃ ov', EnI X w0 w' e rb fl q most 7 70 tries asked false true (c + 1 + 1) FS.zero ov' (out ++ [xTimer 10 200] ++ [xTimer 9 203]) := by
  have H := Lib.hid (h.push #[.int .i64 0, .int .i64 70, .bool false, .int .i64 1, .bool true, .int .i64 0, .int .i64 0, .string ⟨#[]⟩])
  obtain ⟨c0, c1, c2, c3, c4, c5, c6, c7, c8⟩ := h.cells
  have hlt := h.lt.1
  clear h c0 c2 c3 c4 c5 c6 c8
  go_enter Tryz.func79, Tryz.ntmps79
  go_wp2_with fail
  go_quiet ((go_at_call 97; exact Calls.quiet_of_same (setPeer_g fl q FS.zero _ (H.out.drewN _).flow)))
  have hq := H.out.drewN nq
  clear c1 c7 hlt
  generalize (w.alloc (.cells #[.int .i64 0, .int .i64 70, .bool false, .int .i64 1, .bool true, .int .i64 0, .int .i64 0, .string ⟨#[]⟩] 66)).drewN nq = W1 at *
  obtain ⟨c0, c1, c2, c3, c4, c5, c6, c7, c8⟩ := hq.cells
  have hx := hq.top
  have x2 := at_cell hx 2
  have x3 := at_cell hx 3
  have x4 := at_cell hx 4
  have x6 := at_cell hx 6
  simp only [List.getElem?_toArray, List.getElem?_cons_zero, List.getElem?_cons_succ] at x2 x3 x4 x6
  clear hx
  have Hq := Lib.hid hq
  clear hq c0 c2 c3 c4 c5 c6 c8
  go_wp2_with fail
  go_quiet ((go_at_call 95; exact Calls.quiet_of (ack_z fl q 7 256 _ (Hq.out.drewN _).flow.z)))
  go_wp2_with fail
  refine (stop_0 _ (Hq.out.drewN _) (by omega) (by omega)).mono ?_
  rintro en w1 ⟨rfl, ov1, h1⟩
  have H1 := Lib.hid h1
  clear h1 c1 c7 x2 x3 x4 x6
  go_wp2_with fail
  refine (start_3 _ H1.out (by first | omega | (simp; omega)) (by omega)).mono ?_
  rintro en w2 ⟨rfl, ov2, h2⟩
  obtain ⟨c0, c1, c2, c3, c4, c5, c6, c7, c8⟩ := h2.cells
  have hx := h2.top
  have x2 := at_cell hx 2
  have x3 := at_cell hx 3
  have x4 := at_cell hx 4
  have x6 := at_cell hx 6
  simp only [List.getElem?_toArray, List.getElem?_cons_zero, List.getElem?_cons_succ] at x2 x3 x4 x6
  clear hx
  have H2 := Lib.hid h2
  clear h2 c0 c2 c3 c4 c5 c6 c8
  go_wp2_with fail
  refine (fback_z fl q 7 256 _ H2.out.flow.z).mono ?_
  rintro en w3 ⟨rfl, m3, rfl⟩
  have h3 := H2.out.drewN m3
  have f1 := h3.froz 1
  have c1' := h3.cells.2.1
  have H3 := Lib.hid (h3.setSt 7)
  clear h3 c1 c7 x2 x3 x4 x6
  go_wp2_with fail
  refine (goOn_none _ H3.out rfl).mono ?_
  rintro en w4 ⟨rfl, m4, rfl⟩
  have H4 := Lib.hid (H3.out.drewN m4)
  clear f1 c1'
  go_wp2
  go_end0
  exact ⟨rfl, _, H4.out.drop⟩
set_option maxHeartbeats 1000000 in
/-- The RR that answers the payload. -/
theorem sup_open_data (g o : Nat) (s : ByteArray) (w : World) (h : EnI X w0 w e rb fl q most 7 70 tries asked true false c ⟨1, 0, 1, .slice (some ⟨g, o, none⟩) 1 1, [s], 1⟩ ov out) (hl : out.length ≤ 800) (hc : c ≤ 1900000000) :
    Calls Tryz.prog 79 #[.pointer (some ⟨e, 0, none⟩), .agg #[.int .i64 0, .int .i64 70, .bool false, .int .i64 1, .bool false, .int .i64 0, .int .i64 1, .string ⟨#[]⟩]] w fun en w' => en = .returned (.tuple #[]) ∧ ∃ ov', EnI X w0 w' e rb fl q most 7 70 tries asked false true (c + 1 + 1) ⟨1, 1, 1, .slice (some ⟨g, o, none⟩) 0 0, [], 0⟩ ov' (out ++ [xTimer 10 200] ++ [xTimer 9 203]) := by
  have H := Lib.hid (h.push #[.int .i64 0, .int .i64 70, .bool false, .int .i64 1, .bool false, .int .i64 0, .int .i64 1, .string ⟨#[]⟩])
  obtain ⟨c0, c1, c2, c3, c4, c5, c6, c7, c8⟩ := h.cells
  have hlt := h.lt.1
  clear h c0 c2 c3 c4 c5 c6 c8
  go_enter Tryz.func79, Tryz.ntmps79
  go_wp2_with fail
  go_quiet ((go_at_call 97; exact Calls.quiet_of_same (setPeer_g fl q ⟨1, 0, 1, .slice (some ⟨g, o, none⟩) 1 1, [s], 1⟩ _ (H.out.drewN _).flow)))
  have hq := H.out.drewN nq
  clear c1 c7 hlt
  generalize (w.alloc (.cells #[.int .i64 0, .int .i64 70, .bool false, .int .i64 1, .bool false, .int .i64 0, .int .i64 1, .string ⟨#[]⟩] 66)).drewN nq = W1 at *
  obtain ⟨c0, c1, c2, c3, c4, c5, c6, c7, c8⟩ := hq.cells
  have hx := hq.top
  have x2 := at_cell hx 2
  have x3 := at_cell hx 3
  have x4 := at_cell hx 4
  have x6 := at_cell hx 6
  simp only [List.getElem?_toArray, List.getElem?_cons_zero, List.getElem?_cons_succ] at x2 x3 x4 x6
  clear hx
  have Hq := Lib.hid hq
  clear hq c0 c2 c3 c4 c5 c6 c8
  go_wp2_with fail
  go_region_with ((go_at_call 95; refine (ack_1 fl q g o 1 s _ Hq.out.drew.flow).mono ?_; rintro en w2 ⟨rfl, hf2, k2⟩; have h2 := Hq.out.drew.flowTurn hf2 k2 (by simp); have hx := h2.top; have y2 := at_cell hx 2; have y3 := at_cell hx 3; have y4 := at_cell hx 4; have y1 := h2.cells.2.1; simp only [List.getElem?_toArray, List.getElem?_cons_zero, List.getElem?_cons_succ] at y2 y3 y4; have H2 := Lib.hid h2; clear hf2 k2 h2 hx))
  all_goals (
    clear c1 c7 x2 x3 x4 x6
    go_wp2_with fail
    refine (countEq_1 1 _ H2.out (by omega) (by omega) rfl).mono ?_
    rintro en w3 ⟨rfl, ov3, h3⟩
    have c1 := h3.cells.2.1
    have H3 := Lib.hid h3
    clear h3 y1 y2 y3 y4
    go_wp2_with fail
    refine (goOn_none _ H3.out rfl).mono ?_
    rintro en w4 ⟨rfl, m4, rfl⟩
    have H4 := Lib.hid (H3.out.drewN m4)
    clear c1
    go_wp2
    refine bodyPost_ret (results_none rfl _ _ _) rfl ?_
    exact ⟨rfl, _, H4.out.drop⟩)
end
end Go.Proofs.YtlfcfmdblmedcaaGreatDoor.Mine
/- The contracts of what an entity does with a frame, state by state (written by wip/enf.py). -/
namespace Go.Proofs.YtlfcfmdblmedcaaGreatDoor.Mine
open Go.RowKit Go.Maps Go.Proofs.YtlfcfmdblmedcaaGreatDoorW.PrintWords
section
variable {X : List (Nat × Array Value)} {w0 : World} {e rb fl q : Nat} {most st tries : Int} {asked r0 r3 : Bool} {c : Nat} {φ : FS} {ov : Value} {out : List XE}
set_option maxHeartbeats 1000000 in
/-- A UA. -/
theorem reply_any (cmd : Bool) (fk ns nr : Int) (info : ByteArray) (w : World) (h : EnI X w0 w e rb fl q most st 70 tries asked r0 r3 c φ ov out) (hl : out.length ≤ 900) :
    Calls Tryz.prog 73 #[.pointer (some ⟨e, 0, none⟩), .int .i64 8, .agg #[.int .i64 0, .int .i64 70, .bool cmd, .int .i64 fk, .bool true, .int .i64 ns, .int .i64 nr, .string info]] w fun en w' => en = .returned (.tuple #[]) ∧ ∃ ov', EnI X w0 w' e rb fl q most st 70 tries asked r0 r3 c φ ov' (out ++ [xSend false 8 true 0 0 ⟨#[]⟩]) := by
  have H := Lib.hid (h.push #[.int .i64 0, .int .i64 70, .bool cmd, .int .i64 fk, .bool true, .int .i64 ns, .int .i64 nr, .string info])
  have hlt := h.lt.1
  clear h
  go_enter Tryz.func73, Tryz.ntmps73
  go_wp2_with fail
  refine (send_u 8 false true _ H.out (by decide) (by omega)).mono ?_
  rintro en w1 ⟨rfl, ov1, h1⟩
  have H1 := Lib.hid h1
  clear h1
  go_wp2
  go_end0
  exact ⟨rfl, _, H1.out.drop⟩
set_option maxHeartbeats 1000000 in
/-- A UA that nobody asked for. -/
theorem strange_any (cmd : Bool) (fk ns nr : Int) (info : ByteArray) (w : World) (h : EnI X w0 w e rb fl q most st 70 tries asked r0 r3 c φ ov out) (hl : out.length ≤ 900) :
    Calls Tryz.prog 75 #[.pointer (some ⟨e, 0, none⟩), .agg #[.int .i64 0, .int .i64 70, .bool cmd, .int .i64 fk, .bool true, .int .i64 ns, .int .i64 nr, .string info]] w fun en w' => en = .returned (.tuple #[]) ∧ ∃ ov', EnI X w0 w' e rb fl q most st 70 tries asked r0 r3 c φ ov' (out ++ [xTold 7 ⟨#[67]⟩]) := by
  have H := Lib.hid (h.push #[.int .i64 0, .int .i64 70, .bool cmd, .int .i64 fk, .bool true, .int .i64 ns, .int .i64 nr, .string info])
  have hlt := h.lt.1
  clear h
  go_enter Tryz.func75, Tryz.ntmps75
  go_wp2_with fail
  refine (told_any 7 ⟨#[67]⟩ _ H.out (by omega)).mono ?_
  rintro en w1 ⟨rfl, ov1, h1⟩
  have H1 := Lib.hid h1
  clear h1
  go_wp2
  go_end0
  exact ⟨rfl, _, H1.out.drop⟩
set_option maxHeartbeats 1000000 in
/-- Nothing counts as sent. -/
theorem unsure_any (w : World) (h : EnI X w0 w e rb fl q most st 70 tries asked r0 r3 c φ ov out) (hs : φ.sent = 0) :
    Calls Tryz.prog 76 #[.pointer (some ⟨e, 0, none⟩)] w fun en w' => en = .returned (.tuple #[]) ∧ ∃ ov', EnI X w0 w' e rb fl q most st 70 tries asked r0 r3 c φ ov' (out) := by
  obtain ⟨c0, c1, c2, c3, c4, c5, c6, c7, c8⟩ := h.cells
  have hf := fun (a b c s l : Int) (x y z : Bool) W => field_sent (a := a) (b := b) (c := c) (s := s) (l := l) (x := x) (y := y) (z := z) W
  have H := Lib.hid h
  have HS := Lib.hid hs
  clear h hs c0 c1 c2 c3 c4 c5 c6 c8
  go_enter Tryz.func76, Tryz.ntmps76
  go_wp2_with fail
  refine (fview_g fl q φ _ H.out.flow).mono ?_
  rintro en w1 ⟨rfl, b1⟩
  unfold fvG
  rw [HS.out]
  have H1 := Lib.hid (H.out.keep b1)
  clear b1 c7
  go_wp2
  go_end0
  exact ⟨rfl, _, H1.out⟩
set_option maxHeartbeats 1000000 in
/-- SABME, while the link is asked for. -/
theorem ic_S (w : World) (h : EnI X w0 w e rb fl q most 5 70 tries true true false c FS.zero ov out) (hl : out.length ≤ 700) :
    Calls Tryz.prog 40 #[.pointer (some ⟨e, 0, none⟩), .agg #[.int .i64 0, .int .i64 70, .bool true, .int .i64 4, .bool true, .int .i64 0, .int .i64 0, .string ⟨#[]⟩]] w fun en w' => en = .returned (.tuple #[]) ∧ ∃ ov', EnI X w0 w' e rb fl q most 5 70 tries true true false c FS.zero ov' (out ++ [xSend false 8 true 0 0 ⟨#[]⟩]) := by
  have H := Lib.hid (h.push #[.int .i64 0, .int .i64 70, .bool true, .int .i64 4, .bool true, .int .i64 0, .int .i64 0, .string ⟨#[]⟩])
  have hlt := h.lt.1
  clear h
  go_enter Tryz.func40, Tryz.ntmps40
  go_wp2_with fail
  refine (reply_any true 4 0 0 ⟨#[]⟩ _ H.out (by omega)).mono ?_
  rintro en w1 ⟨rfl, ov1, h1⟩
  have H1 := Lib.hid h1
  clear h1
  go_wp2
  go_end0
  exact ⟨rfl, _, H1.out.drop⟩
set_option maxHeartbeats 1000000 in
/-- UA, while the link is asked for. -/
theorem ic_U (w : World) (h : EnI X w0 w e rb fl q most 5 70 tries true true false c FS.zero ov out) (hl : out.length ≤ 700) (hc : c ≤ 1800000000) :
    Calls Tryz.prog 40 #[.pointer (some ⟨e, 0, none⟩), .agg #[.int .i64 0, .int .i64 70, .bool false, .int .i64 8, .bool true, .int .i64 0, .int .i64 0, .string ⟨#[]⟩]] w fun en w' => en = .returned (.tuple #[]) ∧ ∃ ov', EnI X w0 w' e rb fl q most 7 70 tries false false true (c + (1 + 1)) FS.zero ov' (out ++ [xTold 2 ⟨#[]⟩] ++ [xTimer 10 200] ++ [xTimer 9 203]) := by
  have H := Lib.hid (h.push #[.int .i64 0, .int .i64 70, .bool false, .int .i64 8, .bool true, .int .i64 0, .int .i64 0, .string ⟨#[]⟩])
  have hlt := h.lt.1
  obtain ⟨c0, c1, c2, c3, c4, c5, c6, c7, c8⟩ := h.cells
  clear h c0 c1 c2 c3 c5 c6 c7 c8
  go_enter Tryz.func40, Tryz.ntmps40
  go_wp2_with fail
  refine (told_any 2 ⟨#[]⟩ _ H.out (by omega)).mono ?_
  rintro en w1 ⟨rfl, ov1, h1⟩
  have d4 := h1.cells.2.2.2.2.1
  have f4 := h1.froz 4
  have h1 := h1.setAsked false
  have H1 := Lib.hid h1
  clear h1
  go_wp2_with fail
  refine (open_1 _ H1.out (by first | omega | (simp; omega)) (by omega)).mono ?_
  rintro en w2 ⟨rfl, ov2, h2⟩
  clear d4 f4
  have H2 := Lib.hid h2
  clear h2
  go_wp2
  go_end0
  exact ⟨rfl, _, H2.out.drop⟩
set_option maxHeartbeats 1000000 in
/-- RR, while the link is asked for. -/
theorem ic_R (cmd : Bool) (w : World) (h : EnI X w0 w e rb fl q most 5 70 tries true true false c FS.zero ov out)  :
    Calls Tryz.prog 40 #[.pointer (some ⟨e, 0, none⟩), .agg #[.int .i64 0, .int .i64 70, .bool cmd, .int .i64 1, .bool true, .int .i64 0, .int .i64 0, .string ⟨#[]⟩]] w fun en w' => en = .returned (.tuple #[]) ∧ ∃ ov', EnI X w0 w' e rb fl q most 5 70 tries true true false c FS.zero ov' (out) := by
  have H := Lib.hid (h.push #[.int .i64 0, .int .i64 70, .bool cmd, .int .i64 1, .bool true, .int .i64 0, .int .i64 0, .string ⟨#[]⟩])
  have hlt := h.lt.1
  clear h
  go_enter Tryz.func40, Tryz.ntmps40
  go_wp2
  go_end0
  exact ⟨rfl, _, H.out.drop⟩
set_option maxHeartbeats 1000000 in
/-- SABME, and no link is there. -/
theorem ia_S (w : World) (h : EnI X w0 w e rb fl q most 4 70 tries false false false c FS.zero ov out) (hl : out.length ≤ 700) (hc : c ≤ 1800000000) :
    Calls Tryz.prog 39 #[.pointer (some ⟨e, 0, none⟩), .agg #[.int .i64 0, .int .i64 70, .bool true, .int .i64 4, .bool true, .int .i64 0, .int .i64 0, .string ⟨#[]⟩]] w fun en w' => en = .returned (.tuple #[]) ∧ ∃ ov', EnI X w0 w' e rb fl q most 7 70 tries false false true (c + 1) FS.zero ov' (out ++ [xSend false 8 true 0 0 ⟨#[]⟩] ++ [xTold 1 ⟨#[]⟩] ++ [xTimer 9 203]) := by
  have H := Lib.hid (h.push #[.int .i64 0, .int .i64 70, .bool true, .int .i64 4, .bool true, .int .i64 0, .int .i64 0, .string ⟨#[]⟩])
  have hlt := h.lt.1
  clear h
  go_enter Tryz.func39, Tryz.ntmps39
  go_wp2_with fail
  refine (reply_any true 4 0 0 ⟨#[]⟩ _ H.out (by omega)).mono ?_
  rintro en w1 ⟨rfl, ov1, h1⟩
  have H1 := Lib.hid h1
  clear h1
  go_wp2_with fail
  refine (told_any 1 ⟨#[]⟩ _ H1.out (by first | omega | (simp; omega))).mono ?_
  rintro en w2 ⟨rfl, ov2, h2⟩
  have H2 := Lib.hid h2
  clear h2
  go_wp2_with fail
  refine (open_0 _ H2.out (by first | omega | (simp; omega)) (by omega)).mono ?_
  rintro en w3 ⟨rfl, ov3, h3⟩
  have H3 := Lib.hid h3
  clear h3
  go_wp2
  go_end0
  exact ⟨rfl, _, H3.out.drop⟩
set_option maxHeartbeats 1000000 in
/-- SABME, and the link is there. -/
theorem io_S_open (w : World) (h : EnI X w0 w e rb fl q most 7 70 tries asked false true c FS.zero ov out) (hl : out.length ≤ 700) (hc : c ≤ 1800000000) :
    Calls Tryz.prog 42 #[.pointer (some ⟨e, 0, none⟩), .agg #[.int .i64 0, .int .i64 70, .bool true, .int .i64 4, .bool true, .int .i64 0, .int .i64 0, .string ⟨#[]⟩]] w fun en w' => en = .returned (.tuple #[]) ∧ ∃ ov', EnI X w0 w' e rb fl q most 7 70 tries asked false true (c + 1) FS.zero ov' (out ++ [xSend false 8 true 0 0 ⟨#[]⟩] ++ [xTold 7 ⟨#[70]⟩] ++ [xTimer 9 203]) := by
  have H := Lib.hid (h.push #[.int .i64 0, .int .i64 70, .bool true, .int .i64 4, .bool true, .int .i64 0, .int .i64 0, .string ⟨#[]⟩])
  have hlt := h.lt.1
  clear h
  go_enter Tryz.func42, Tryz.ntmps42
  go_wp2_with fail
  refine (reply_any true 4 0 0 ⟨#[]⟩ _ H.out (by omega)).mono ?_
  rintro en w1 ⟨rfl, ov1, h1⟩
  have H1 := Lib.hid h1
  clear h1
  go_wp2_with fail
  refine (told_any 7 ⟨#[70]⟩ _ H1.out (by first | omega | (simp; omega))).mono ?_
  rintro en w2 ⟨rfl, ov2, h2⟩
  have H2 := Lib.hid h2
  clear h2
  go_wp2_with fail
  refine (unsure_any _ H2.out rfl).mono ?_
  rintro en w3 ⟨rfl, ov3, h3⟩
  have H3 := Lib.hid h3
  clear h3
  go_wp2_with fail
  refine (open_0 _ H3.out (by first | omega | (simp; omega)) (by omega)).mono ?_
  rintro en w4 ⟨rfl, ov4, h4⟩
  have H4 := Lib.hid h4
  clear h4
  go_wp2
  go_end0
  exact ⟨rfl, _, H4.out.drop⟩
set_option maxHeartbeats 1000000 in
/-- SABME, and the link is there. -/
theorem io_S_rec (w : World) (h : EnI X w0 w e rb fl q most 8 70 tries asked true false c FS.zero ov out) (hl : out.length ≤ 700) (hc : c ≤ 1800000000) :
    Calls Tryz.prog 42 #[.pointer (some ⟨e, 0, none⟩), .agg #[.int .i64 0, .int .i64 70, .bool true, .int .i64 4, .bool true, .int .i64 0, .int .i64 0, .string ⟨#[]⟩]] w fun en w' => en = .returned (.tuple #[]) ∧ ∃ ov', EnI X w0 w' e rb fl q most 7 70 tries asked false true (c + (1 + 1)) FS.zero ov' (out ++ [xSend false 8 true 0 0 ⟨#[]⟩] ++ [xTold 7 ⟨#[70]⟩] ++ [xTimer 10 200] ++ [xTimer 9 203]) := by
  have H := Lib.hid (h.push #[.int .i64 0, .int .i64 70, .bool true, .int .i64 4, .bool true, .int .i64 0, .int .i64 0, .string ⟨#[]⟩])
  have hlt := h.lt.1
  clear h
  go_enter Tryz.func42, Tryz.ntmps42
  go_wp2_with fail
  refine (reply_any true 4 0 0 ⟨#[]⟩ _ H.out (by omega)).mono ?_
  rintro en w1 ⟨rfl, ov1, h1⟩
  have H1 := Lib.hid h1
  clear h1
  go_wp2_with fail
  refine (told_any 7 ⟨#[70]⟩ _ H1.out (by first | omega | (simp; omega))).mono ?_
  rintro en w2 ⟨rfl, ov2, h2⟩
  have H2 := Lib.hid h2
  clear h2
  go_wp2_with fail
  refine (unsure_any _ H2.out rfl).mono ?_
  rintro en w3 ⟨rfl, ov3, h3⟩
  have H3 := Lib.hid h3
  clear h3
  go_wp2_with fail
  refine (open_1 _ H3.out (by first | omega | (simp; omega)) (by omega)).mono ?_
  rintro en w4 ⟨rfl, ov4, h4⟩
  have H4 := Lib.hid h4
  clear h4
  go_wp2
  go_end0
  exact ⟨rfl, _, H4.out.drop⟩
set_option maxHeartbeats 1000000 in
/-- UA, and the link is there. -/
theorem io_U (w : World) (h : EnI X w0 w e rb fl q most st 70 tries asked r0 r3 c φ ov out) (hl : out.length ≤ 700) :
    Calls Tryz.prog 42 #[.pointer (some ⟨e, 0, none⟩), .agg #[.int .i64 0, .int .i64 70, .bool false, .int .i64 8, .bool true, .int .i64 0, .int .i64 0, .string ⟨#[]⟩]] w fun en w' => en = .returned (.tuple #[]) ∧ ∃ ov', EnI X w0 w' e rb fl q most st 70 tries asked r0 r3 c φ ov' (out ++ [xTold 7 ⟨#[67]⟩]) := by
  have H := Lib.hid (h.push #[.int .i64 0, .int .i64 70, .bool false, .int .i64 8, .bool true, .int .i64 0, .int .i64 0, .string ⟨#[]⟩])
  have hlt := h.lt.1
  clear h
  go_enter Tryz.func42, Tryz.ntmps42
  go_wp2_with fail
  refine (strange_any false 8 0 0 ⟨#[]⟩ _ H.out (by omega)).mono ?_
  rintro en w1 ⟨rfl, ov1, h1⟩
  have H1 := Lib.hid h1
  clear h1
  go_wp2
  go_end0
  exact ⟨rfl, _, H1.out.drop⟩
set_option maxHeartbeats 1000000 in
/-- A command RR, the link is there. -/
theorem io_Q_open (w : World) (h : EnI X w0 w e rb fl q most 7 70 tries asked false true c FS.zero ov out) (hl : out.length ≤ 700) (hc : c ≤ 1800000000) :
    Calls Tryz.prog 42 #[.pointer (some ⟨e, 0, none⟩), .agg #[.int .i64 0, .int .i64 70, .bool true, .int .i64 1, .bool true, .int .i64 0, .int .i64 0, .string ⟨#[]⟩]] w fun en w' => en = .returned (.tuple #[]) ∧ ∃ ov', EnI X w0 w' e rb fl q most 7 70 tries asked false true (c + 1) FS.zero ov' (out ++ [xSend false 1 true 0 0 ⟨#[]⟩] ++ [xTimer 9 203]) := by
  have H := Lib.hid (h.push #[.int .i64 0, .int .i64 70, .bool true, .int .i64 1, .bool true, .int .i64 0, .int .i64 0, .string ⟨#[]⟩])
  have hlt := h.lt.1
  clear h
  go_enter Tryz.func42, Tryz.ntmps42
  go_wp2_with fail
  refine (sup_open_cmd _ H.out (by omega) (by omega)).mono ?_
  rintro en w1 ⟨rfl, ov1, h1⟩
  have H1 := Lib.hid h1
  clear h1
  go_wp2
  go_end0
  exact ⟨rfl, _, H1.out.drop⟩
set_option maxHeartbeats 1000000 in
/-- A command RR, in recovery. -/
theorem io_Q_rec (w : World) (h : EnI X w0 w e rb fl q most 8 70 tries asked true false c FS.zero ov out) (hl : out.length ≤ 700) :
    Calls Tryz.prog 42 #[.pointer (some ⟨e, 0, none⟩), .agg #[.int .i64 0, .int .i64 70, .bool true, .int .i64 1, .bool true, .int .i64 0, .int .i64 0, .string ⟨#[]⟩]] w fun en w' => en = .returned (.tuple #[]) ∧ ∃ ov', EnI X w0 w' e rb fl q most 8 70 tries asked true false c FS.zero ov' (out ++ [xSend false 1 true 0 0 ⟨#[]⟩]) := by
  have H := Lib.hid (h.push #[.int .i64 0, .int .i64 70, .bool true, .int .i64 1, .bool true, .int .i64 0, .int .i64 0, .string ⟨#[]⟩])
  have hlt := h.lt.1
  clear h
  go_enter Tryz.func42, Tryz.ntmps42
  go_wp2_with fail
  refine (sup_rec_cmd _ H.out (by omega)).mono ?_
  rintro en w1 ⟨rfl, ov1, h1⟩
  have H1 := Lib.hid h1
  clear h1
  go_wp2
  go_end0
  exact ⟨rfl, _, H1.out.drop⟩
set_option maxHeartbeats 1000000 in
/-- A final RR, the link is there. -/
theorem io_P_open (w : World) (h : EnI X w0 w e rb fl q most 7 70 tries asked false true c FS.zero ov out) (hl : out.length ≤ 700) (hc : c ≤ 1800000000) :
    Calls Tryz.prog 42 #[.pointer (some ⟨e, 0, none⟩), .agg #[.int .i64 0, .int .i64 70, .bool false, .int .i64 1, .bool true, .int .i64 0, .int .i64 0, .string ⟨#[]⟩]] w fun en w' => en = .returned (.tuple #[]) ∧ ∃ ov', EnI X w0 w' e rb fl q most 7 70 tries asked false true (c + 1) FS.zero ov' (out ++ [xTold 7 ⟨#[65]⟩] ++ [xTimer 9 203]) := by
  have H := Lib.hid (h.push #[.int .i64 0, .int .i64 70, .bool false, .int .i64 1, .bool true, .int .i64 0, .int .i64 0, .string ⟨#[]⟩])
  have hlt := h.lt.1
  clear h
  go_enter Tryz.func42, Tryz.ntmps42
  go_wp2_with fail
  refine (sup_open_fin _ H.out (by omega) (by omega)).mono ?_
  rintro en w1 ⟨rfl, ov1, h1⟩
  have H1 := Lib.hid h1
  clear h1
  go_wp2
  go_end0
  exact ⟨rfl, _, H1.out.drop⟩
set_option maxHeartbeats 1000000 in
/-- A final RR, in recovery. -/
theorem io_P_rec (w : World) (h : EnI X w0 w e rb fl q most 8 70 tries asked true false c FS.zero ov out) (hl : out.length ≤ 700) (hc : c ≤ 1800000000) :
    Calls Tryz.prog 42 #[.pointer (some ⟨e, 0, none⟩), .agg #[.int .i64 0, .int .i64 70, .bool false, .int .i64 1, .bool true, .int .i64 0, .int .i64 0, .string ⟨#[]⟩]] w fun en w' => en = .returned (.tuple #[]) ∧ ∃ ov', EnI X w0 w' e rb fl q most 7 70 tries asked false true (c + 1 + 1) FS.zero ov' (out ++ [xTimer 10 200] ++ [xTimer 9 203]) := by
  have H := Lib.hid (h.push #[.int .i64 0, .int .i64 70, .bool false, .int .i64 1, .bool true, .int .i64 0, .int .i64 0, .string ⟨#[]⟩])
  have hlt := h.lt.1
  clear h
  go_enter Tryz.func42, Tryz.ntmps42
  go_wp2_with fail
  refine (sup_rec_fin _ H.out (by omega) (by omega)).mono ?_
  rintro en w1 ⟨rfl, ov1, h1⟩
  have H1 := Lib.hid h1
  clear h1
  go_wp2
  go_end0
  exact ⟨rfl, _, H1.out.drop⟩
set_option maxHeartbeats 1000000 in
/-- The RR that answers the payload. -/
theorem io_data (g o : Nat) (s : ByteArray) (w : World) (h : EnI X w0 w e rb fl q most 7 70 tries asked true false c ⟨1, 0, 1, .slice (some ⟨g, o, none⟩) 1 1, [s], 1⟩ ov out) (hl : out.length ≤ 700) (hc : c ≤ 1800000000) :
    Calls Tryz.prog 42 #[.pointer (some ⟨e, 0, none⟩), .agg #[.int .i64 0, .int .i64 70, .bool false, .int .i64 1, .bool false, .int .i64 0, .int .i64 1, .string ⟨#[]⟩]] w fun en w' => en = .returned (.tuple #[]) ∧ ∃ ov', EnI X w0 w' e rb fl q most 7 70 tries asked false true (c + 1 + 1) ⟨1, 1, 1, .slice (some ⟨g, o, none⟩) 0 0, [], 0⟩ ov' (out ++ [xTimer 10 200] ++ [xTimer 9 203]) := by
  have H := Lib.hid (h.push #[.int .i64 0, .int .i64 70, .bool false, .int .i64 1, .bool false, .int .i64 0, .int .i64 1, .string ⟨#[]⟩])
  have hlt := h.lt.1
  clear h
  go_enter Tryz.func42, Tryz.ntmps42
  go_wp2_with fail
  refine (sup_open_data g o s _ H.out (by omega) (by omega)).mono ?_
  rintro en w1 ⟨rfl, ov1, h1⟩
  have H1 := Lib.hid h1
  clear h1
  go_wp2
  go_end0
  exact ⟨rfl, _, H1.out.drop⟩
end
end Go.Proofs.YtlfcfmdblmedcaaGreatDoor.Mine
/- An I comes; a frame comes (Frame), a timer is over (Timeout): case by case (written by wip/eng.py). -/
namespace Go.Proofs.YtlfcfmdblmedcaaGreatDoor.Mine
open Go.RowKit Go.Maps Go.Proofs.YtlfcfmdblmedcaaGreatDoorW.PrintWords
section
variable {X : List (Nat × Array Value)} {w0 : World} {e rb fl q : Nat} {most st tries : Int} {asked r0 r3 : Bool} {c : Nat} {φ : FS} {ov : Value} {out : List XE}
set_option maxHeartbeats 4000000 in
/-- The payload's I comes. -/
theorem info_d (g o cp : Nat) (s d : ByteArray) (w : World) (h : EnI X w0 w e rb fl q most 7 70 tries asked true false c ⟨1, 0, 0, .slice (some ⟨g, o, none⟩) 1 cp, [s], 1⟩ ov out) (hl : out.length ≤ 700) :
    Calls Tryz.prog 78 #[.pointer (some ⟨e, 0, none⟩), .agg #[.int .i64 0, .int .i64 70, .bool true, .int .i64 0, .bool false, .int .i64 0, .int .i64 0, .string d]] w fun en w' => en = .returned (.tuple #[]) ∧ ∃ ov', EnI X w0 w' e rb fl q most 7 70 tries asked true false c ⟨1, 0, 1, .slice (some ⟨g, o, none⟩) 1 1, [s], 1⟩ ov' (out ++ [xTold 5 d] ++ [xSend false 1 false 0 1 ⟨#[]⟩]) := by
  have H := Lib.hid (h.push #[.int .i64 0, .int .i64 70, .bool true, .int .i64 0, .bool false, .int .i64 0, .int .i64 0, .string d])
  have hlt := h.lt.1
  obtain ⟨c0, c1, c2, c3, c4, c5, c6, c7, c8⟩ := h.cells
  have hf := fun (a b c s l : Int) (x y z : Bool) W => field_peer (a := a) (b := b) (c := c) (s := s) (l := l) (x := x) (y := y) (z := z) W
  clear h c0 c1 c2 c3 c4 c5 c6 c8
  go_enter Tryz.func78, Tryz.ntmps78
  go_wp2_with fail
  go_region_with ((go_at_call 94; refine (come_d fl q 1 0 _ _ 1 _ H.out.drew.flow).mono ?_; rintro en w1 ⟨rfl, hf1, k1⟩; have h1 := H.out.drew.flowTurn hf1 k1 (by simp); have hx := h1.top; have y3 := at_cell hx 4; have y5 := at_cell hx 6; have y6 := at_cell hx 7; simp only [List.getElem?_toArray, List.getElem?_cons_zero, List.getElem?_cons_succ] at y3 y5 y6; clear hx; have H1 := Lib.hid h1; clear hf1 k1 h1))
  all_goals (
    clear c7
    go_wp2_with fail
    refine (told_any 5 d _ H1.out (by omega)).mono ?_
    rintro en w2 ⟨rfl, ov2, h2⟩
    clear y3 y5 y6
    have hx := h2.top
    have y3 := at_cell hx 4
    have y5 := at_cell hx 6
    have y6 := at_cell hx 7
    simp only [List.getElem?_toArray, List.getElem?_cons_zero, List.getElem?_cons_succ] at y3 y5 y6
    clear hx
    have H2 := Lib.hid h2
    clear h2
    go_wp2_with fail
    refine (supervise_any false false _ H2.out (by first | omega | (simp; omega))).mono ?_
    rintro en w3 ⟨rfl, ov3, h3⟩
    clear y3 y5 y6
    have hx := h3.top
    have y3 := at_cell hx 4
    have y5 := at_cell hx 6
    have y6 := at_cell hx 7
    simp only [List.getElem?_toArray, List.getElem?_cons_zero, List.getElem?_cons_succ] at y3 y5 y6
    clear hx
    have c7 := h3.cells.2.2.2.2.2.2.2.1
    have H3 := Lib.hid h3
    clear h3
    go_wp2_with fail
    go_region_with ((go_at_call 95; refine (ack_0 fl q g o cp 1 s _ H3.out.drew.flow).mono ?_; rintro en w4 ⟨rfl, hf4, k4⟩; have h4 := H3.out.drew.flowTurn hf4 k4 (by simp); have z1 := h4.cells.2.1; have z7 := h4.cells.2.2.2.2.2.2.2.1; have H4 := Lib.hid h4; clear hf4 k4 h4))
    all_goals (
      clear c7 y3 y5 y6
      go_wp2_with fail
      refine (fview_g fl q _ _ H4.out.flow).mono ?_
      rintro en w5 ⟨rfl, b5⟩
      unfold fvG
      have H5 := Lib.hid (H4.out.keep b5)
      clear b5 z1 z7
      go_wp2_with fail
      refine (countNe _ H5.out ⟨rfl, rfl⟩).mono ?_
      rintro en w6 ⟨rfl, h6⟩
      have H6 := Lib.hid h6
      clear h6
      go_wp2_with fail
      refine (goOn_none _ H6.out rfl).mono ?_
      rintro en w7 ⟨rfl, m7, rfl⟩
      have H7 := Lib.hid (H6.out.drewN m7)
      go_wp2
      go_end0
      exact ⟨rfl, _, H7.out.drop⟩))
set_option maxHeartbeats 1000000 in
/-- The payload's I comes, the link is there. -/
theorem io_I (g o cp : Nat) (s d : ByteArray) (w : World) (h : EnI X w0 w e rb fl q most 7 70 tries asked true false c ⟨1, 0, 0, .slice (some ⟨g, o, none⟩) 1 cp, [s], 1⟩ ov out) (hl : out.length ≤ 700) :
    Calls Tryz.prog 42 #[.pointer (some ⟨e, 0, none⟩), .agg #[.int .i64 0, .int .i64 70, .bool true, .int .i64 0, .bool false, .int .i64 0, .int .i64 0, .string d]] w fun en w' => en = .returned (.tuple #[]) ∧ ∃ ov', EnI X w0 w' e rb fl q most 7 70 tries asked true false c ⟨1, 0, 1, .slice (some ⟨g, o, none⟩) 1 1, [s], 1⟩ ov' (out ++ [xTold 5 d] ++ [xSend false 1 false 0 1 ⟨#[]⟩]) := by
  have H := Lib.hid (h.push #[.int .i64 0, .int .i64 70, .bool true, .int .i64 0, .bool false, .int .i64 0, .int .i64 0, .string d])
  have hlt := h.lt.1
  clear h
  go_enter Tryz.func42, Tryz.ntmps42
  go_wp2_with fail
  refine (info_d g o cp s d _ H.out (by omega)).mono ?_
  rintro en w1 ⟨rfl, ov1, h1⟩
  have H1 := Lib.hid h1
  clear h1
  go_wp2
  go_end0
  exact ⟨rfl, _, H1.out.drop⟩
set_option maxHeartbeats 1000000 in
/-- One more try. -/
theorem again_any (t : Nat) (w : World) (h : EnI X w0 w e rb fl q most 5 70 (t : Int) asked false false c φ ov out) (ht : (t : Int) < most ∧ t ≤ 1000) (hl : out.length ≤ 700) (hc : c ≤ 1800000000) :
    Calls Tryz.prog 43 #[.pointer (some ⟨e, 0, none⟩), .int .i64 4, .string ⟨#[71]⟩, .int .i64 3] w fun en w' => en = .returned (.tuple #[]) ∧ ∃ ov', EnI X w0 w' e rb fl q most 5 70 ((t + 1 : Nat) : Int) asked true false (c + 1) φ ov' (out ++ [xSend true 4 true 0 0 ⟨#[]⟩] ++ [xTimer 9 200]) := by
  obtain ⟨c0, c1, c2, c3, c4, c5, c6, c7, c8⟩ := h.cells
  have H := Lib.hid h
  have HT := Lib.hid ht
  have hne : ((t : Int) == most) = false := by simp; omega
  have ht2 : t ≤ 1000 := ht.2
  clear h ht c1 c2 c4 c5 c6 c7 c8
  go_enter Tryz.func43, Tryz.ntmps43
  go_wp2_with fail
  go_quiet (fail)
  have h1 := H.out.drewN nq
  clear c0 c3
  generalize w.drewN nq = W1 at *
  have c3 := h1.cells.2.2.2.1
  have f3 := h1.froz 3
  have H1 := Lib.hid (h1.setTries ((t : Int) + 1))
  clear h1
  go_wp2_with fail
  refine (send_u 4 true true _ H1.out (by decide) (by omega)).mono ?_
  rintro en w2 ⟨rfl, ov2, h2⟩
  have H2 := Lib.hid h2
  clear h2
  clear c3 f3
  go_wp2_with fail
  refine (start_0 _ H2.out (by first | omega | (simp; omega)) (by omega)).mono ?_
  rintro en w3 ⟨rfl, ov3, h3⟩
  have H3 := Lib.hid h3
  clear h3
  go_wp2
  go_end0
  exact ⟨rfl, _, H3.out⟩
end
end Go.Proofs.YtlfcfmdblmedcaaGreatDoor.Mine
