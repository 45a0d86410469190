/- The contract of the reference's Message. Written by refmsg.py. -/
import Derived.Test.YtffkbadjbnmnmaaRefUserB
namespace Go.Proofs.Ytffkbadjbnmnmaa.Mine
open Go.RowKit Go.Proofs.YtffkbadjbnmnmaaW.PrintWords
attribute [local go_sem] max_int min_int max_of_two min_of_two

theorem RIn.base {w0 w1 w : World} {g d : Nat} {most : Int} {s : US} {st : Int} {o : List Ef} (h : RIn w1 g d most s st o w) (b : Only [g, d] w0 w1) (hl : g < w0.heap.size ∧ d < w0.heap.size) : RIn w0 g d most s st o w := by
  obtain ⟨v, h1, h2, h3, h4, h5⟩ := h
  refine ⟨v, h1, ?_, b.trans h3, hl.1, hl.2⟩
  obtain ⟨a1, a2⟩ := h2
  refine ⟨a1, a2.imp id ?_⟩
  rintro ⟨g', cap, cur, b1, b2, b3⟩
  exact ⟨g', cap, cur, b1, Nat.le_trans b.size b2, b3⟩
theorem RIn.here {w : World} {g d : Nat} {most : Int} {s : US} {st : Int} (h : RU w g d most s st (.slice none 0 0)) : RIn w g d most s st [] w := ⟨_, h, own_nil _ _ _ _, Only.refl _ _, h.lt.1, h.lt.2⟩
theorem RIn.box {w0 w : World} {g d b : Nat} {most : Int} {s : US} {st : Int} {o : List Ef} {x : Obj} (h : RIn w0 g d most s st o w) (hb : w0.heap[b]? = some x) (hg : g < b) (hd : d < b) : w.heap[b]? = some x := by
  obtain ⟨v, h1, h2, h3, h4, h5⟩ := h
  exact h3.at hb (by simp; omega)

theorem RIn.next {w0 w w2 : World} {g d : Nat} {most : Int} {s : US} {st st' : Int} {o : List Ef} {v : Value} (h : RU w g d most s st v) (g2 : Outs w w0.heap.size v o) (g3 : Only [g, d] w0 w) (g4 : g < w0.heap.size) (g5 : d < w0.heap.size) (hs : RSrc w2 d d [] 0 st') (k2 : Only [d] w w2) : RIn w0 g d most s st' o w2 := by
  refine ⟨v, h.ofsrc k2 hs, ?_, g3.trans (k2.mono (by simp)), g4, g5⟩
  obtain ⟨a1, a2⟩ := g2
  refine ⟨a1, a2.imp id ?_⟩
  rintro ⟨g', cap, cur, b1, b2, b3, b4⟩
  exact ⟨g', cap, cur, b1, b2, k2.at b3 (by simp; omega), b4⟩

section
variable {w : World} {g d : Nat} {q : Nat × Nat} {most : Int} {s : US} {st : Int} {v : Value}

set_option maxHeartbeats 1000000 in
set_option maxRecDepth 100000 in
theorem rmsg_bad (t ri ai : Int) (h : RU w g d most s st v) (hw : s.wf most) (hq : s.still) (hE : putE t ri ai ≠ 0) :
    Calls Try.prog 34 #[.pointer (some ⟨g, 0, none⟩), .agg #[.int .i64 t, .int .i64 ri, .int .i64 ai]] w fun e w' => e = .returned (.tuple #[]) ∧ RDone w g d most (uMsg (some q) s ([], st) t ri ai) w' := by
  obtain ⟨-, -, -, -, -, -, c6⟩ := h.cells
  have f6 := h.free 6
  have hgl := h.lt.1
  have hu : RU ((w.setCell ⟨g, 6, none⟩ (.slice none 0 0)).alloc (.cells #[.int .i64 t, .int .i64 ri, .int .i64 ai] 83)) g d most s st (.slice none 0 0) := (h.setOut _).below ((Below.refl _ _).alloc (Nat.le_refl _) _)
  have hR0 := RIn.here hu
  have hbx := at_new (w.setCell ⟨g, 6, none⟩ (.slice none 0 0)) (.cells #[.int .i64 t, .int .i64 ri, .int .i64 ai] 83)
  rw [show (w.setCell ⟨g, 6, none⟩ (.slice none 0 0)).heap.size = w.heap.size by simp [World.setCell]] at hbx
  have hHB : Only [g, d] w ((w.setCell ⟨g, 6, none⟩ (.slice none 0 0)).alloc (.cells #[.int .i64 t, .int .i64 ri, .int .i64 ai] 83)) := ((Only.refl _ _).setCell (Or.inl (by simp)) _).alloc _
  have HBx := Lib.hid hHB
  have HL := Lib.hid h.lt
  have HR0 := Lib.hid hR0
  have HX0 := Lib.hid hbx
  have HW := Lib.hid hw
  have HQ := Lib.hid hq
  clear h hu hR0 hbx hHB hw hq
  have e : uMsg (some q) s ([], st) t ri ai = ⟨[], 0, s, ([], st)⟩ := by
    unfold uMsg; rw [if_pos hE]
  have E := Lib.hid e
  clear e
  obtain ⟨pe, hpe⟩ : ∃ pe, putE t ri ai = pe := ⟨_, rfl⟩
  rw [hpe] at hE
  have hne : (pe != 0) = true := by simpa using hE
  have HE := Lib.hid hpe
  clear hpe hE
  go_enter Try.func34, Try.ntmps34
  go_wp2_with fail
  refine (rput_any _ _ _ _).mono ?_
  rintro e w1 ⟨x, rfl, b1⟩
  rw [HE.out]
  have hR1 := HR0.out.below b1
  have hb1 := (b1.block _ (lt_of_at HX0.out)).trans HX0.out
  obtain ⟨v1, hu1, -⟩ := id hR1
  obtain ⟨-, c1, c2, c3, c4, c5, -⟩ := hu1.cells
  have m0 := at_cell hb1 0
  have m1 := at_cell hb1 1
  have m2 := at_cell hb1 2
  simp at m0 m1 m2
  have HR := Lib.hid hR1
  have HU := Lib.hid hu1
  clear b1 hR1 hb1 hu1 c6 f6 HR0
  clear m0 m1 m2 c1 c2 c3 c4 c5
  go_wp2
  first
    | go_end0
    | refine bodyPost_ret (results_none rfl _ _ _) rfl ?_
  exact ⟨rfl, by unfold RDone; rw [E.out]; exact HR.out.base HBx.out HL.out⟩

set_option maxHeartbeats 1000000 in
set_option maxRecDepth 100000 in
theorem rmsg_other (t ri ai : Int) (h : RU w g d most s st v) (hw : s.wf most) (hq : s.still) (hE : putE t ri ai = 0) (h2 : t ≠ 2) (h4 : t ≠ 4) (h6 : t ≠ 6) :
    Calls Try.prog 34 #[.pointer (some ⟨g, 0, none⟩), .agg #[.int .i64 t, .int .i64 ri, .int .i64 ai]] w fun e w' => e = .returned (.tuple #[]) ∧ RDone w g d most (uMsg (some q) s ([], st) t ri ai) w' := by
  obtain ⟨-, -, -, -, -, -, c6⟩ := h.cells
  have f6 := h.free 6
  have hgl := h.lt.1
  have hu : RU ((w.setCell ⟨g, 6, none⟩ (.slice none 0 0)).alloc (.cells #[.int .i64 t, .int .i64 ri, .int .i64 ai] 83)) g d most s st (.slice none 0 0) := (h.setOut _).below ((Below.refl _ _).alloc (Nat.le_refl _) _)
  have hR0 := RIn.here hu
  have hbx := at_new (w.setCell ⟨g, 6, none⟩ (.slice none 0 0)) (.cells #[.int .i64 t, .int .i64 ri, .int .i64 ai] 83)
  rw [show (w.setCell ⟨g, 6, none⟩ (.slice none 0 0)).heap.size = w.heap.size by simp [World.setCell]] at hbx
  have hHB : Only [g, d] w ((w.setCell ⟨g, 6, none⟩ (.slice none 0 0)).alloc (.cells #[.int .i64 t, .int .i64 ri, .int .i64 ai] 83)) := ((Only.refl _ _).setCell (Or.inl (by simp)) _).alloc _
  have HBx := Lib.hid hHB
  have HL := Lib.hid h.lt
  have HR0 := Lib.hid hR0
  have HX0 := Lib.hid hbx
  have HW := Lib.hid hw
  have HQ := Lib.hid hq
  clear h hu hR0 hbx hHB hw hq
  have e : uMsg (some q) s ([], st) t ri ai = ⟨[], 0, s, ([], st)⟩ := by
    unfold uMsg; rw [if_neg (by omega), if_neg (fun h => h2 h.1), if_neg (fun h => by have := h.2; omega), if_neg (fun h => h4 h.2)]
  have E := Lib.hid e
  clear e
  have q2 : (t == 2) = false := by simpa using h2
  have q4 : (t == 4) = false := by simpa using h4
  have q6 : (t == 6) = false := by simpa using h6
  clear h2 h4 h6
  have HE := Lib.hid hE
  clear hE
  go_enter Try.func34, Try.ntmps34
  go_wp2_with fail
  refine (rput_any _ _ _ _).mono ?_
  rintro e w1 ⟨x, rfl, b1⟩
  rw [HE.out]
  have hR1 := HR0.out.below b1
  have hb1 := (b1.block _ (lt_of_at HX0.out)).trans HX0.out
  obtain ⟨v1, hu1, -⟩ := id hR1
  obtain ⟨-, c1, c2, c3, c4, c5, -⟩ := hu1.cells
  have m0 := at_cell hb1 0
  have m1 := at_cell hb1 1
  have m2 := at_cell hb1 2
  simp at m0 m1 m2
  have HR := Lib.hid hR1
  have HU := Lib.hid hu1
  clear b1 hR1 hb1 hu1 c6 f6 HR0
  go_wp2
  first
    | go_end0
    | refine bodyPost_ret (results_none rfl _ _ _) rfl ?_
  exact ⟨rfl, by unfold RDone; rw [E.out]; exact HR.out.base HBx.out HL.out⟩

set_option maxHeartbeats 1000000 in
set_option maxRecDepth 100000 in
theorem rmsg_takes (t ri ai : Int) (h : RU w g d most s st v) (hw : s.wf most) (hq : s.still) (hE : putE t ri ai = 0) (hk : uTakes s t ri ai) :
    Calls Try.prog 34 #[.pointer (some ⟨g, 0, none⟩), .agg #[.int .i64 t, .int .i64 ri, .int .i64 ai]] w fun e w' => e = .returned (.tuple #[]) ∧ RDone w g d most (uMsg (some q) s ([], st) t ri ai) w' := by
  obtain ⟨-, -, -, -, -, -, c6⟩ := h.cells
  have f6 := h.free 6
  have hgl := h.lt.1
  have hu : RU ((w.setCell ⟨g, 6, none⟩ (.slice none 0 0)).alloc (.cells #[.int .i64 t, .int .i64 ri, .int .i64 ai] 83)) g d most s st (.slice none 0 0) := (h.setOut _).below ((Below.refl _ _).alloc (Nat.le_refl _) _)
  have hR0 := RIn.here hu
  have hbx := at_new (w.setCell ⟨g, 6, none⟩ (.slice none 0 0)) (.cells #[.int .i64 t, .int .i64 ri, .int .i64 ai] 83)
  rw [show (w.setCell ⟨g, 6, none⟩ (.slice none 0 0)).heap.size = w.heap.size by simp [World.setCell]] at hbx
  have hHB : Only [g, d] w ((w.setCell ⟨g, 6, none⟩ (.slice none 0 0)).alloc (.cells #[.int .i64 t, .int .i64 ri, .int .i64 ai] 83)) := ((Only.refl _ _).setCell (Or.inl (by simp)) _).alloc _
  have HBx := Lib.hid hHB
  have HL := Lib.hid h.lt
  have HR0 := Lib.hid hR0
  have HX0 := Lib.hid hbx
  have HW := Lib.hid hw
  have HQ := Lib.hid hq
  clear h hu hR0 hbx hHB hw hq
  have e : uMsg (some q) s ([], st) t ri ai = ⟨[⟨5, 0, 0, 0, 0⟩, ⟨1, 0, 0, 0, ai⟩], 0, ⟨ai, false, 0, 0⟩, ([], st)⟩ := by
    unfold uMsg; rw [if_neg (by omega), if_pos hk]
  have E := Lib.hid e
  clear e
  obtain ⟨rfl, ha, hr, h64, h126⟩ := hk
  have HA := Lib.hid ha
  have q1 : (ri == s.ri) = true := by simpa using hr
  clear ha hr
  have HE := Lib.hid hE
  clear hE
  go_enter Try.func34, Try.ntmps34
  go_wp2_with fail
  refine (rput_any _ _ _ _).mono ?_
  rintro e w1 ⟨x, rfl, b1⟩
  rw [HE.out]
  have hR1 := HR0.out.below b1
  have hb1 := (b1.block _ (lt_of_at HX0.out)).trans HX0.out
  obtain ⟨v1, hu1, -⟩ := id hR1
  obtain ⟨-, c1, c2, c3, c4, c5, -⟩ := hu1.cells
  have m0 := at_cell hb1 0
  have m1 := at_cell hb1 1
  have m2 := at_cell hb1 2
  simp at m0 m1 m2
  have HR := Lib.hid hR1
  have HU := Lib.hid hu1
  clear b1 hR1 hb1 hu1 c6 f6 HR0
  rw [HA.out] at c2
  go_wp2_with fail
  go_quiet (fail)
  go_wp2_with fail
  refine (rtell_any 5 0 _ (HR.out.drewN _) (by simp)).mono ?_
  rintro e w2 ⟨rfl, h2⟩
  clear c1 c2 c3 c4 c5 m0 m1 m2
  have H2 := Lib.hid h2
  clear h2
  go_wp2_with fail
  refine (ridle_any _ H2.out).mono ?_
  rintro e w3 ⟨rfl, h3⟩
  obtain ⟨v3, hu3, -⟩ := id h3
  obtain ⟨-, c1, -, -, -, -, -⟩ := hu3.cells
  have f1 := hu3.free 1
  have hb3 := h3.box HX0.out HL.out.1 HL.out.2
  have m2 := at_cell hb3 2
  simp at m2
  have h4 := h3.set (s' := ⟨ai, false, 0, 0⟩) rfl (fun v h => h.setTei ai)
  have hn : w.heap.size ≠ g := by have := HL.out.1; omega
  have H4 := Lib.hid h4
  clear h3 hu3 hb3 h4
  go_wp2_with fail
  refine (rtell_any 1 ai _ H4.out (by simp)).mono ?_
  rintro e w5 ⟨rfl, h5⟩
  have H5 := Lib.hid h5
  clear h5
  go_wp2
  first
    | go_end0
    | refine bodyPost_ret (results_none rfl _ _ _) rfl ?_
  exact ⟨rfl, by unfold RDone; rw [E.out]; exact H5.out.base HBx.out HL.out⟩

set_option maxHeartbeats 1000000 in
set_option maxRecDepth 100000 in
theorem rmsg_t2askri (t ri ai : Int) (h : RU w g d most s st v) (hw : s.wf most) (hq : s.still) (hE : putE t ri ai = 0) (h2 : t = 2) (ha : s.asking = true) (hx : ri ≠ s.ri) :
    Calls Try.prog 34 #[.pointer (some ⟨g, 0, none⟩), .agg #[.int .i64 t, .int .i64 ri, .int .i64 ai]] w fun e w' => e = .returned (.tuple #[]) ∧ RDone w g d most (uMsg (some q) s ([], st) t ri ai) w' := by
  obtain ⟨-, -, -, -, -, -, c6⟩ := h.cells
  have f6 := h.free 6
  have hgl := h.lt.1
  have hu : RU ((w.setCell ⟨g, 6, none⟩ (.slice none 0 0)).alloc (.cells #[.int .i64 t, .int .i64 ri, .int .i64 ai] 83)) g d most s st (.slice none 0 0) := (h.setOut _).below ((Below.refl _ _).alloc (Nat.le_refl _) _)
  have hR0 := RIn.here hu
  have hbx := at_new (w.setCell ⟨g, 6, none⟩ (.slice none 0 0)) (.cells #[.int .i64 t, .int .i64 ri, .int .i64 ai] 83)
  rw [show (w.setCell ⟨g, 6, none⟩ (.slice none 0 0)).heap.size = w.heap.size by simp [World.setCell]] at hbx
  have hHB : Only [g, d] w ((w.setCell ⟨g, 6, none⟩ (.slice none 0 0)).alloc (.cells #[.int .i64 t, .int .i64 ri, .int .i64 ai] 83)) := ((Only.refl _ _).setCell (Or.inl (by simp)) _).alloc _
  have HBx := Lib.hid hHB
  have HL := Lib.hid h.lt
  have HR0 := Lib.hid hR0
  have HX0 := Lib.hid hbx
  have HW := Lib.hid hw
  have HQ := Lib.hid hq
  clear h hu hR0 hbx hHB hw hq
  have e : uMsg (some q) s ([], st) t ri ai = ⟨[], 0, s, ([], st)⟩ := by
    unfold uMsg; rw [if_neg (by omega), if_neg (fun h => hx h.2.2.1), if_neg (fun h => h.1.1 (wf_ask HW.out ha).1), if_neg (fun h => h.1.1 (wf_ask HW.out ha).1)]
  have E := Lib.hid e
  clear e
  have ht := (wf_ask HW.out ha).1
  have HA := Lib.hid ha
  have HT := Lib.hid ht
  clear ha ht
  have q1 : (ri == s.ri) = false := by simpa using hx
  clear hx
  subst h2
  have HE := Lib.hid hE
  clear hE
  go_enter Try.func34, Try.ntmps34
  go_wp2_with fail
  refine (rput_any _ _ _ _).mono ?_
  rintro e w1 ⟨x, rfl, b1⟩
  rw [HE.out]
  have hR1 := HR0.out.below b1
  have hb1 := (b1.block _ (lt_of_at HX0.out)).trans HX0.out
  obtain ⟨v1, hu1, -⟩ := id hR1
  obtain ⟨-, c1, c2, c3, c4, c5, -⟩ := hu1.cells
  have m0 := at_cell hb1 0
  have m1 := at_cell hb1 1
  have m2 := at_cell hb1 2
  simp at m0 m1 m2
  have HR := Lib.hid hR1
  have HU := Lib.hid hu1
  clear b1 hR1 hb1 hu1 c6 f6 HR0
  rw [HA.out] at c2
  rw [HT.out] at c1
  go_wp2_with fail
  go_quiet (fail)
  go_wp2_with fail
  go_quiet (fail)
  go_wp2
  first
    | go_end0
    | refine bodyPost_ret (results_none rfl _ _ _) rfl ?_
  exact ⟨rfl, by unfold RDone; rw [E.out]; exact ((HR.out.drewN _).drewN _).base HBx.out HL.out⟩

set_option maxHeartbeats 1000000 in
set_option maxRecDepth 100000 in
theorem rmsg_t2asklo (t ri ai : Int) (h : RU w g d most s st v) (hw : s.wf most) (hq : s.still) (hE : putE t ri ai = 0) (h2 : t = 2) (ha : s.asking = true) (hy : ri = s.ri) (hx : ai < 64) :
    Calls Try.prog 34 #[.pointer (some ⟨g, 0, none⟩), .agg #[.int .i64 t, .int .i64 ri, .int .i64 ai]] w fun e w' => e = .returned (.tuple #[]) ∧ RDone w g d most (uMsg (some q) s ([], st) t ri ai) w' := by
  obtain ⟨-, -, -, -, -, -, c6⟩ := h.cells
  have f6 := h.free 6
  have hgl := h.lt.1
  have hu : RU ((w.setCell ⟨g, 6, none⟩ (.slice none 0 0)).alloc (.cells #[.int .i64 t, .int .i64 ri, .int .i64 ai] 83)) g d most s st (.slice none 0 0) := (h.setOut _).below ((Below.refl _ _).alloc (Nat.le_refl _) _)
  have hR0 := RIn.here hu
  have hbx := at_new (w.setCell ⟨g, 6, none⟩ (.slice none 0 0)) (.cells #[.int .i64 t, .int .i64 ri, .int .i64 ai] 83)
  rw [show (w.setCell ⟨g, 6, none⟩ (.slice none 0 0)).heap.size = w.heap.size by simp [World.setCell]] at hbx
  have hHB : Only [g, d] w ((w.setCell ⟨g, 6, none⟩ (.slice none 0 0)).alloc (.cells #[.int .i64 t, .int .i64 ri, .int .i64 ai] 83)) := ((Only.refl _ _).setCell (Or.inl (by simp)) _).alloc _
  have HBx := Lib.hid hHB
  have HL := Lib.hid h.lt
  have HR0 := Lib.hid hR0
  have HX0 := Lib.hid hbx
  have HW := Lib.hid hw
  have HQ := Lib.hid hq
  clear h hu hR0 hbx hHB hw hq
  have e : uMsg (some q) s ([], st) t ri ai = ⟨[], 0, s, ([], st)⟩ := by
    unfold uMsg; rw [if_neg (by omega), if_neg (fun h => (by have := h.2.2.2.1; omega)), if_neg (fun h => h.1.1 (wf_ask HW.out ha).1), if_neg (fun h => h.1.1 (wf_ask HW.out ha).1)]
  have E := Lib.hid e
  clear e
  have ht := (wf_ask HW.out ha).1
  have HA := Lib.hid ha
  have HT := Lib.hid ht
  clear ha ht
  have q1 : (ri == s.ri) = true := by simpa using hy
  have q2 : decide (64 ≤ ai) = false := by simpa using hx
  clear hy
  clear hx
  subst h2
  have HE := Lib.hid hE
  clear hE
  go_enter Try.func34, Try.ntmps34
  go_wp2_with fail
  refine (rput_any _ _ _ _).mono ?_
  rintro e w1 ⟨x, rfl, b1⟩
  rw [HE.out]
  have hR1 := HR0.out.below b1
  have hb1 := (b1.block _ (lt_of_at HX0.out)).trans HX0.out
  obtain ⟨v1, hu1, -⟩ := id hR1
  obtain ⟨-, c1, c2, c3, c4, c5, -⟩ := hu1.cells
  have m0 := at_cell hb1 0
  have m1 := at_cell hb1 1
  have m2 := at_cell hb1 2
  simp at m0 m1 m2
  have HR := Lib.hid hR1
  have HU := Lib.hid hu1
  clear b1 hR1 hb1 hu1 c6 f6 HR0
  rw [HA.out] at c2
  rw [HT.out] at c1
  go_wp2_with fail
  go_quiet (fail)
  go_wp2_with fail
  go_quiet (fail)
  go_wp2
  first
    | go_end0
    | refine bodyPost_ret (results_none rfl _ _ _) rfl ?_
  exact ⟨rfl, by unfold RDone; rw [E.out]; exact ((HR.out.drewN _).drewN _).base HBx.out HL.out⟩

set_option maxHeartbeats 1000000 in
set_option maxRecDepth 100000 in
theorem rmsg_t2askhi (t ri ai : Int) (h : RU w g d most s st v) (hw : s.wf most) (hq : s.still) (hE : putE t ri ai = 0) (h2 : t = 2) (ha : s.asking = true) (hy : ri = s.ri) (hx : 126 < ai) :
    Calls Try.prog 34 #[.pointer (some ⟨g, 0, none⟩), .agg #[.int .i64 t, .int .i64 ri, .int .i64 ai]] w fun e w' => e = .returned (.tuple #[]) ∧ RDone w g d most (uMsg (some q) s ([], st) t ri ai) w' := by
  obtain ⟨-, -, -, -, -, -, c6⟩ := h.cells
  have f6 := h.free 6
  have hgl := h.lt.1
  have hu : RU ((w.setCell ⟨g, 6, none⟩ (.slice none 0 0)).alloc (.cells #[.int .i64 t, .int .i64 ri, .int .i64 ai] 83)) g d most s st (.slice none 0 0) := (h.setOut _).below ((Below.refl _ _).alloc (Nat.le_refl _) _)
  have hR0 := RIn.here hu
  have hbx := at_new (w.setCell ⟨g, 6, none⟩ (.slice none 0 0)) (.cells #[.int .i64 t, .int .i64 ri, .int .i64 ai] 83)
  rw [show (w.setCell ⟨g, 6, none⟩ (.slice none 0 0)).heap.size = w.heap.size by simp [World.setCell]] at hbx
  have hHB : Only [g, d] w ((w.setCell ⟨g, 6, none⟩ (.slice none 0 0)).alloc (.cells #[.int .i64 t, .int .i64 ri, .int .i64 ai] 83)) := ((Only.refl _ _).setCell (Or.inl (by simp)) _).alloc _
  have HBx := Lib.hid hHB
  have HL := Lib.hid h.lt
  have HR0 := Lib.hid hR0
  have HX0 := Lib.hid hbx
  have HW := Lib.hid hw
  have HQ := Lib.hid hq
  clear h hu hR0 hbx hHB hw hq
  have e : uMsg (some q) s ([], st) t ri ai = ⟨[], 0, s, ([], st)⟩ := by
    unfold uMsg; rw [if_neg (by omega), if_neg (fun h => (by have := h.2.2.2.2; omega)), if_neg (fun h => h.1.1 (wf_ask HW.out ha).1), if_neg (fun h => h.1.1 (wf_ask HW.out ha).1)]
  have E := Lib.hid e
  clear e
  have ht := (wf_ask HW.out ha).1
  have HA := Lib.hid ha
  have HT := Lib.hid ht
  clear ha ht
  have q1 : (ri == s.ri) = true := by simpa using hy
  have q2 : 64 ≤ ai := by omega
  have q3 : decide (ai ≤ 126) = false := by simpa using hx
  clear hy
  clear hx
  subst h2
  have HE := Lib.hid hE
  clear hE
  go_enter Try.func34, Try.ntmps34
  go_wp2_with fail
  refine (rput_any _ _ _ _).mono ?_
  rintro e w1 ⟨x, rfl, b1⟩
  rw [HE.out]
  have hR1 := HR0.out.below b1
  have hb1 := (b1.block _ (lt_of_at HX0.out)).trans HX0.out
  obtain ⟨v1, hu1, -⟩ := id hR1
  obtain ⟨-, c1, c2, c3, c4, c5, -⟩ := hu1.cells
  have m0 := at_cell hb1 0
  have m1 := at_cell hb1 1
  have m2 := at_cell hb1 2
  simp at m0 m1 m2
  have HR := Lib.hid hR1
  have HU := Lib.hid hu1
  clear b1 hR1 hb1 hu1 c6 f6 HR0
  rw [HA.out] at c2
  rw [HT.out] at c1
  go_wp2_with fail
  go_quiet (fail)
  go_wp2_with fail
  go_quiet (fail)
  go_wp2
  first
    | go_end0
    | refine bodyPost_ret (results_none rfl _ _ _) rfl ?_
  exact ⟨rfl, by unfold RDone; rw [E.out]; exact ((HR.out.drewN _).drewN _).base HBx.out HL.out⟩

set_option maxHeartbeats 1000000 in
set_option maxRecDepth 100000 in
theorem rmsg_t2none (t ri ai : Int) (h : RU w g d most s st v) (hw : s.wf most) (hq : s.still) (hE : putE t ri ai = 0) (h2 : t = 2) (ha : s.asking = false) (hT : s.tei = -1) :
    Calls Try.prog 34 #[.pointer (some ⟨g, 0, none⟩), .agg #[.int .i64 t, .int .i64 ri, .int .i64 ai]] w fun e w' => e = .returned (.tuple #[]) ∧ RDone w g d most (uMsg (some q) s ([], st) t ri ai) w' := by
  obtain ⟨-, -, -, -, -, -, c6⟩ := h.cells
  have f6 := h.free 6
  have hgl := h.lt.1
  have hu : RU ((w.setCell ⟨g, 6, none⟩ (.slice none 0 0)).alloc (.cells #[.int .i64 t, .int .i64 ri, .int .i64 ai] 83)) g d most s st (.slice none 0 0) := (h.setOut _).below ((Below.refl _ _).alloc (Nat.le_refl _) _)
  have hR0 := RIn.here hu
  have hbx := at_new (w.setCell ⟨g, 6, none⟩ (.slice none 0 0)) (.cells #[.int .i64 t, .int .i64 ri, .int .i64 ai] 83)
  rw [show (w.setCell ⟨g, 6, none⟩ (.slice none 0 0)).heap.size = w.heap.size by simp [World.setCell]] at hbx
  have hHB : Only [g, d] w ((w.setCell ⟨g, 6, none⟩ (.slice none 0 0)).alloc (.cells #[.int .i64 t, .int .i64 ri, .int .i64 ai] 83)) := ((Only.refl _ _).setCell (Or.inl (by simp)) _).alloc _
  have HBx := Lib.hid hHB
  have HL := Lib.hid h.lt
  have HR0 := Lib.hid hR0
  have HX0 := Lib.hid hbx
  have HW := Lib.hid hw
  have HQ := Lib.hid hq
  clear h hu hR0 hbx hHB hw hq
  have e : uMsg (some q) s ([], st) t ri ai = ⟨[], 0, s, ([], st)⟩ := by
    unfold uMsg; rw [if_neg (by omega), if_neg (fun h => by have := h.2.1; rw [ha] at this; exact Bool.noConfusion this), if_neg (fun h => h.1.1 hT), if_neg (fun h => h.1.1 hT)]
  have E := Lib.hid e
  clear e
  have HA := Lib.hid ha
  have HT := Lib.hid hT
  clear hT
  clear ha
  subst h2
  have HE := Lib.hid hE
  clear hE
  go_enter Try.func34, Try.ntmps34
  go_wp2_with fail
  refine (rput_any _ _ _ _).mono ?_
  rintro e w1 ⟨x, rfl, b1⟩
  rw [HE.out]
  have hR1 := HR0.out.below b1
  have hb1 := (b1.block _ (lt_of_at HX0.out)).trans HX0.out
  obtain ⟨v1, hu1, -⟩ := id hR1
  obtain ⟨-, c1, c2, c3, c4, c5, -⟩ := hu1.cells
  have m0 := at_cell hb1 0
  have m1 := at_cell hb1 1
  have m2 := at_cell hb1 2
  simp at m0 m1 m2
  have HR := Lib.hid hR1
  have HU := Lib.hid hu1
  clear b1 hR1 hb1 hu1 c6 f6 HR0
  rw [HA.out] at c2
  rw [HT.out] at c1
  go_wp2_with fail
  go_quiet (fail)
  go_wp2_with fail
  go_quiet (fail)
  go_wp2
  first
    | go_end0
    | refine bodyPost_ret (results_none rfl _ _ _) rfl ?_
  exact ⟨rfl, by unfold RDone; rw [E.out]; exact ((HR.out.drewN _).drewN _).base HBx.out HL.out⟩

set_option maxHeartbeats 1000000 in
set_option maxRecDepth 100000 in
theorem rmsg_t2far (t ri ai : Int) (h : RU w g d most s st v) (hw : s.wf most) (hq : s.still) (hE : putE t ri ai = 0) (h2 : t = 2) (ha : s.asking = false) (hT : s.tei ≠ -1) (hx : ai ≠ s.tei) :
    Calls Try.prog 34 #[.pointer (some ⟨g, 0, none⟩), .agg #[.int .i64 t, .int .i64 ri, .int .i64 ai]] w fun e w' => e = .returned (.tuple #[]) ∧ RDone w g d most (uMsg (some q) s ([], st) t ri ai) w' := by
  obtain ⟨-, -, -, -, -, -, c6⟩ := h.cells
  have f6 := h.free 6
  have hgl := h.lt.1
  have hu : RU ((w.setCell ⟨g, 6, none⟩ (.slice none 0 0)).alloc (.cells #[.int .i64 t, .int .i64 ri, .int .i64 ai] 83)) g d most s st (.slice none 0 0) := (h.setOut _).below ((Below.refl _ _).alloc (Nat.le_refl _) _)
  have hR0 := RIn.here hu
  have hbx := at_new (w.setCell ⟨g, 6, none⟩ (.slice none 0 0)) (.cells #[.int .i64 t, .int .i64 ri, .int .i64 ai] 83)
  rw [show (w.setCell ⟨g, 6, none⟩ (.slice none 0 0)).heap.size = w.heap.size by simp [World.setCell]] at hbx
  have hHB : Only [g, d] w ((w.setCell ⟨g, 6, none⟩ (.slice none 0 0)).alloc (.cells #[.int .i64 t, .int .i64 ri, .int .i64 ai] 83)) := ((Only.refl _ _).setCell (Or.inl (by simp)) _).alloc _
  have HBx := Lib.hid hHB
  have HL := Lib.hid h.lt
  have HR0 := Lib.hid hR0
  have HX0 := Lib.hid hbx
  have HW := Lib.hid hw
  have HQ := Lib.hid hq
  clear h hu hR0 hbx hHB hw hq
  have e : uMsg (some q) s ([], st) t ri ai = ⟨[], 0, s, ([], st)⟩ := by
    unfold uMsg; rw [if_neg (by omega), if_neg (fun h => by have := h.2.1; rw [ha] at this; exact Bool.noConfusion this), if_neg (fun h => by rcases h.2 with q | q; (exact hx q.2); omega), if_neg (fun h => by have := h.2; omega)]
  have E := Lib.hid e
  clear e
  have HA := Lib.hid ha
  have hp := (wf_low HW.out hT).1
  clear hT
  have q1 : (ai == s.tei) = false := by simpa using hx
  clear ha hx
  subst h2
  have HE := Lib.hid hE
  clear hE
  go_enter Try.func34, Try.ntmps34
  go_wp2_with fail
  refine (rput_any _ _ _ _).mono ?_
  rintro e w1 ⟨x, rfl, b1⟩
  rw [HE.out]
  have hR1 := HR0.out.below b1
  have hb1 := (b1.block _ (lt_of_at HX0.out)).trans HX0.out
  obtain ⟨v1, hu1, -⟩ := id hR1
  obtain ⟨-, c1, c2, c3, c4, c5, -⟩ := hu1.cells
  have m0 := at_cell hb1 0
  have m1 := at_cell hb1 1
  have m2 := at_cell hb1 2
  simp at m0 m1 m2
  have HR := Lib.hid hR1
  have HU := Lib.hid hu1
  clear b1 hR1 hb1 hu1 c6 f6 HR0
  rw [HA.out] at c2
  go_wp2_with fail
  go_quiet (fail)
  go_wp2_with fail
  go_quiet (fail)
  go_wp2
  first
    | go_end0
    | refine bodyPost_ret (results_none rfl _ _ _) rfl ?_
  exact ⟨rfl, by unfold RDone; rw [E.out]; exact ((HR.out.drewN _).drewN _).base HBx.out HL.out⟩

set_option maxHeartbeats 1000000 in
set_option maxRecDepth 100000 in
theorem rmsg_t2lose (t ri ai : Int) (h : RU w g d most s st v) (hw : s.wf most) (hq : s.still) (hE : putE t ri ai = 0) (h2 : t = 2) (ha : s.asking = false) (hT : s.tei ≠ -1) (hx : ai = s.tei) :
    Calls Try.prog 34 #[.pointer (some ⟨g, 0, none⟩), .agg #[.int .i64 t, .int .i64 ri, .int .i64 ai]] w fun e w' => e = .returned (.tuple #[]) ∧ RDone w g d most (uMsg (some q) s ([], st) t ri ai) w' := by
  obtain ⟨-, -, -, -, -, -, c6⟩ := h.cells
  have f6 := h.free 6
  have hgl := h.lt.1
  have hu : RU ((w.setCell ⟨g, 6, none⟩ (.slice none 0 0)).alloc (.cells #[.int .i64 t, .int .i64 ri, .int .i64 ai] 83)) g d most s st (.slice none 0 0) := (h.setOut _).below ((Below.refl _ _).alloc (Nat.le_refl _) _)
  have hR0 := RIn.here hu
  have hbx := at_new (w.setCell ⟨g, 6, none⟩ (.slice none 0 0)) (.cells #[.int .i64 t, .int .i64 ri, .int .i64 ai] 83)
  rw [show (w.setCell ⟨g, 6, none⟩ (.slice none 0 0)).heap.size = w.heap.size by simp [World.setCell]] at hbx
  have hHB : Only [g, d] w ((w.setCell ⟨g, 6, none⟩ (.slice none 0 0)).alloc (.cells #[.int .i64 t, .int .i64 ri, .int .i64 ai] 83)) := ((Only.refl _ _).setCell (Or.inl (by simp)) _).alloc _
  have HBx := Lib.hid hHB
  have HL := Lib.hid h.lt
  have HR0 := Lib.hid hR0
  have HX0 := Lib.hid hbx
  have HW := Lib.hid hw
  have HQ := Lib.hid hq
  clear h hu hR0 hbx hHB hw hq
  have e : uMsg (some q) s ([], st) t ri ai = ⟨[⟨2, 0, 0, 0, s.tei⟩], 0, uIdle, ([], st)⟩ := by
    unfold uMsg; rw [if_neg (by omega), if_neg (fun h => by have := h.2.1; rw [ha] at this; exact Bool.noConfusion this), if_pos ⟨⟨hT, Or.inl hx⟩, Or.inl ⟨h2, hx⟩⟩]; rfl
  have E := Lib.hid e
  clear e
  have HA := Lib.hid ha
  have hi : (⟨-1, s.asking, s.ri, s.tries⟩ : US) = uIdle := by
    have hsa := (wf_low HW.out hT).2
    obtain ⟨z1, z2⟩ := HQ.out hsa
    rw [hsa, z1, z2]; rfl
  have HI := Lib.hid hi
  clear hi
  have hp := (wf_low HW.out hT).1
  clear hT
  have q1 : (ai == s.tei) = true := by simpa using hx
  clear ha hx
  subst h2
  have HE := Lib.hid hE
  clear hE
  go_enter Try.func34, Try.ntmps34
  go_wp2_with fail
  refine (rput_any _ _ _ _).mono ?_
  rintro e w1 ⟨x, rfl, b1⟩
  rw [HE.out]
  have hR1 := HR0.out.below b1
  have hb1 := (b1.block _ (lt_of_at HX0.out)).trans HX0.out
  obtain ⟨v1, hu1, -⟩ := id hR1
  obtain ⟨-, c1, c2, c3, c4, c5, -⟩ := hu1.cells
  have m0 := at_cell hb1 0
  have m1 := at_cell hb1 1
  have m2 := at_cell hb1 2
  simp at m0 m1 m2
  have HR := Lib.hid hR1
  have HU := Lib.hid hu1
  clear b1 hR1 hb1 hu1 c6 f6 HR0
  rw [HA.out] at c2
  go_wp2_with fail
  go_quiet (fail)
  go_wp2_with fail
  go_quiet (fail)
  go_wp2_with fail
  refine (rlose_any _ (HR.out.drewN _) (by simp)).mono ?_
  rintro e w2 ⟨rfl, h3⟩
  rw [HI.out] at h3
  have H3 := Lib.hid h3
  clear h3
  go_wp2
  first
    | go_end0
    | refine bodyPost_ret (results_none rfl _ _ _) rfl ?_
  exact ⟨rfl, by unfold RDone; rw [E.out]; exact H3.out.base HBx.out HL.out⟩

set_option maxHeartbeats 1000000 in
set_option maxRecDepth 100000 in
theorem rmsg_t4none (t ri ai : Int) (h : RU w g d most s st v) (hw : s.wf most) (hq : s.still) (hE : putE t ri ai = 0) (h2 : t = 4) (hT : s.tei = -1) :
    Calls Try.prog 34 #[.pointer (some ⟨g, 0, none⟩), .agg #[.int .i64 t, .int .i64 ri, .int .i64 ai]] w fun e w' => e = .returned (.tuple #[]) ∧ RDone w g d most (uMsg (some q) s ([], st) t ri ai) w' := by
  obtain ⟨-, -, -, -, -, -, c6⟩ := h.cells
  have f6 := h.free 6
  have hgl := h.lt.1
  have hu : RU ((w.setCell ⟨g, 6, none⟩ (.slice none 0 0)).alloc (.cells #[.int .i64 t, .int .i64 ri, .int .i64 ai] 83)) g d most s st (.slice none 0 0) := (h.setOut _).below ((Below.refl _ _).alloc (Nat.le_refl _) _)
  have hR0 := RIn.here hu
  have hbx := at_new (w.setCell ⟨g, 6, none⟩ (.slice none 0 0)) (.cells #[.int .i64 t, .int .i64 ri, .int .i64 ai] 83)
  rw [show (w.setCell ⟨g, 6, none⟩ (.slice none 0 0)).heap.size = w.heap.size by simp [World.setCell]] at hbx
  have hHB : Only [g, d] w ((w.setCell ⟨g, 6, none⟩ (.slice none 0 0)).alloc (.cells #[.int .i64 t, .int .i64 ri, .int .i64 ai] 83)) := ((Only.refl _ _).setCell (Or.inl (by simp)) _).alloc _
  have HBx := Lib.hid hHB
  have HL := Lib.hid h.lt
  have HR0 := Lib.hid hR0
  have HX0 := Lib.hid hbx
  have HW := Lib.hid hw
  have HQ := Lib.hid hq
  clear h hu hR0 hbx hHB hw hq
  have e : uMsg (some q) s ([], st) t ri ai = ⟨[], 0, s, ([], st)⟩ := by
    unfold uMsg; rw [if_neg (by omega), if_neg (fun h => by have := h.1; omega), if_neg (fun h => h.1.1 hT), if_neg (fun h => h.1.1 hT)]
  have E := Lib.hid e
  clear e
  have HT := Lib.hid hT
  clear hT

  subst h2
  have HE := Lib.hid hE
  clear hE
  go_enter Try.func34, Try.ntmps34
  go_wp2_with fail
  refine (rput_any _ _ _ _).mono ?_
  rintro e w1 ⟨x, rfl, b1⟩
  rw [HE.out]
  have hR1 := HR0.out.below b1
  have hb1 := (b1.block _ (lt_of_at HX0.out)).trans HX0.out
  obtain ⟨v1, hu1, -⟩ := id hR1
  obtain ⟨-, c1, c2, c3, c4, c5, -⟩ := hu1.cells
  have m0 := at_cell hb1 0
  have m1 := at_cell hb1 1
  have m2 := at_cell hb1 2
  simp at m0 m1 m2
  have HR := Lib.hid hR1
  have HU := Lib.hid hu1
  clear b1 hR1 hb1 hu1 c6 f6 HR0
  rw [HT.out] at c1
  go_wp2_with fail
  go_quiet (fail)
  go_wp2
  first
    | go_end0
    | refine bodyPost_ret (results_none rfl _ _ _) rfl ?_
  exact ⟨rfl, by unfold RDone; rw [E.out]; exact (HR.out.drewN _).base HBx.out HL.out⟩

set_option maxHeartbeats 1000000 in
set_option maxRecDepth 100000 in
theorem rmsg_t4far (t ri ai : Int) (h : RU w g d most s st v) (hw : s.wf most) (hq : s.still) (hE : putE t ri ai = 0) (h2 : t = 4) (hT : s.tei ≠ -1) (hx : ai ≠ s.tei) (hy : ai ≠ 127) :
    Calls Try.prog 34 #[.pointer (some ⟨g, 0, none⟩), .agg #[.int .i64 t, .int .i64 ri, .int .i64 ai]] w fun e w' => e = .returned (.tuple #[]) ∧ RDone w g d most (uMsg (some q) s ([], st) t ri ai) w' := by
  obtain ⟨-, -, -, -, -, -, c6⟩ := h.cells
  have f6 := h.free 6
  have hgl := h.lt.1
  have hu : RU ((w.setCell ⟨g, 6, none⟩ (.slice none 0 0)).alloc (.cells #[.int .i64 t, .int .i64 ri, .int .i64 ai] 83)) g d most s st (.slice none 0 0) := (h.setOut _).below ((Below.refl _ _).alloc (Nat.le_refl _) _)
  have hR0 := RIn.here hu
  have hbx := at_new (w.setCell ⟨g, 6, none⟩ (.slice none 0 0)) (.cells #[.int .i64 t, .int .i64 ri, .int .i64 ai] 83)
  rw [show (w.setCell ⟨g, 6, none⟩ (.slice none 0 0)).heap.size = w.heap.size by simp [World.setCell]] at hbx
  have hHB : Only [g, d] w ((w.setCell ⟨g, 6, none⟩ (.slice none 0 0)).alloc (.cells #[.int .i64 t, .int .i64 ri, .int .i64 ai] 83)) := ((Only.refl _ _).setCell (Or.inl (by simp)) _).alloc _
  have HBx := Lib.hid hHB
  have HL := Lib.hid h.lt
  have HR0 := Lib.hid hR0
  have HX0 := Lib.hid hbx
  have HW := Lib.hid hw
  have HQ := Lib.hid hq
  clear h hu hR0 hbx hHB hw hq
  have e : uMsg (some q) s ([], st) t ri ai = ⟨[], 0, s, ([], st)⟩ := by
    unfold uMsg; rw [if_neg (by omega), if_neg (fun h => by have := h.1; omega), if_neg (fun h => h.1.2.elim hx hy), if_neg (fun h => h.1.2.elim hx hy)]
  have E := Lib.hid e
  clear e
  have hp := (wf_low HW.out hT).1
  clear hT
  have q1 : (ai == s.tei) = false := by simpa using hx
  have q2 : (ai == 127) = false := by simpa using hy
  clear hx hy
  subst h2
  have HE := Lib.hid hE
  clear hE
  go_enter Try.func34, Try.ntmps34
  go_wp2_with fail
  refine (rput_any _ _ _ _).mono ?_
  rintro e w1 ⟨x, rfl, b1⟩
  rw [HE.out]
  have hR1 := HR0.out.below b1
  have hb1 := (b1.block _ (lt_of_at HX0.out)).trans HX0.out
  obtain ⟨v1, hu1, -⟩ := id hR1
  obtain ⟨-, c1, c2, c3, c4, c5, -⟩ := hu1.cells
  have m0 := at_cell hb1 0
  have m1 := at_cell hb1 1
  have m2 := at_cell hb1 2
  simp at m0 m1 m2
  have HR := Lib.hid hR1
  have HU := Lib.hid hu1
  clear b1 hR1 hb1 hu1 c6 f6 HR0
  go_wp2_with fail
  go_quiet (fail)
  go_wp2
  first
    | go_end0
    | refine bodyPost_ret (results_none rfl _ _ _) rfl ?_
  exact ⟨rfl, by unfold RDone; rw [E.out]; exact (HR.out.drewN _).base HBx.out HL.out⟩

set_option maxHeartbeats 1000000 in
set_option maxRecDepth 100000 in
theorem rmsg_t4own (t ri ai : Int) (h : RU w g d most s st v) (hw : s.wf most) (hq : s.still) (hE : putE t ri ai = 0) (h2 : t = 4) (hT : s.tei ≠ -1) (hx : ai = s.tei) :
    Calls Try.prog 34 #[.pointer (some ⟨g, 0, none⟩), .agg #[.int .i64 t, .int .i64 ri, .int .i64 ai]] w fun e w' => e = .returned (.tuple #[]) ∧ RDone w g d most (uMsg (some q) s ([], st) t ri ai) w' := by
  obtain ⟨-, -, -, -, -, -, c6⟩ := h.cells
  have f6 := h.free 6
  have hgl := h.lt.1
  have hu : RU ((w.setCell ⟨g, 6, none⟩ (.slice none 0 0)).alloc (.cells #[.int .i64 t, .int .i64 ri, .int .i64 ai] 83)) g d most s st (.slice none 0 0) := (h.setOut _).below ((Below.refl _ _).alloc (Nat.le_refl _) _)
  have hR0 := RIn.here hu
  have hbx := at_new (w.setCell ⟨g, 6, none⟩ (.slice none 0 0)) (.cells #[.int .i64 t, .int .i64 ri, .int .i64 ai] 83)
  rw [show (w.setCell ⟨g, 6, none⟩ (.slice none 0 0)).heap.size = w.heap.size by simp [World.setCell]] at hbx
  have hHB : Only [g, d] w ((w.setCell ⟨g, 6, none⟩ (.slice none 0 0)).alloc (.cells #[.int .i64 t, .int .i64 ri, .int .i64 ai] 83)) := ((Only.refl _ _).setCell (Or.inl (by simp)) _).alloc _
  have HBx := Lib.hid hHB
  have HL := Lib.hid h.lt
  have HR0 := Lib.hid hR0
  have HX0 := Lib.hid hbx
  have HW := Lib.hid hw
  have HQ := Lib.hid hq
  clear h hu hR0 hbx hHB hw hq
  have e : uMsg (some q) s ([], st) t ri ai = ⟨[⟨0, 5, lcg st / 281474976710656, s.tei, 0⟩], 0, s, ([], lcg st)⟩ := by
    unfold uMsg; rw [if_neg (by omega), if_neg (fun h => by have := h.1; omega), if_neg (fun h => by have := h.2; omega), if_pos ⟨⟨hT, Or.inl hx⟩, h2⟩]; rfl
  have E := Lib.hid e
  clear e
  have hp := (wf_low HW.out hT).1
  clear hT
  have q1 : (ai == s.tei) = true := by simpa using hx
  clear hx
  subst h2
  have HE := Lib.hid hE
  clear hE
  go_enter Try.func34, Try.ntmps34
  go_wp2_with fail
  refine (rput_any _ _ _ _).mono ?_
  rintro e w1 ⟨x, rfl, b1⟩
  rw [HE.out]
  have hR1 := HR0.out.below b1
  have hb1 := (b1.block _ (lt_of_at HX0.out)).trans HX0.out
  obtain ⟨v1, hu1, -⟩ := id hR1
  obtain ⟨-, c1, c2, c3, c4, c5, -⟩ := hu1.cells
  have m0 := at_cell hb1 0
  have m1 := at_cell hb1 1
  have m2 := at_cell hb1 2
  simp at m0 m1 m2
  have HR := Lib.hid hR1
  have HU := Lib.hid hu1
  clear b1 hR1 hb1 hu1 c6 f6 HR0
  go_wp2_with fail
  go_quiet (fail)
  go_wp2_with fail
  obtain ⟨v2, hu2, g2, g3, g4, g5⟩ := (HR.out.drewN _)
  refine (rnext_nil _ hu2.src rfl).mono ?_
  rintro e w2 ⟨rfl, hs, k2⟩
  have hB := RIn.next hu2 g2 g3 g4 g5 hs k2
  have hu3 := hu2.ofsrc k2 hs
  obtain ⟨-, c1, -, -, -, -, -⟩ := hu3.cells
  have HB := Lib.hid hB
  clear hu2 hu3 g2 g3 g4 g5 hs k2 hB
  go_wp2_with fail
  refine (rsay_any 5 (lcg st / 281474976710656) s.tei _ HB.out (by simp)).mono ?_
  rintro e w3 ⟨rfl, h3⟩
  have H3 := Lib.hid h3
  clear h3
  go_wp2
  first
    | go_end0
    | refine bodyPost_ret (results_none rfl _ _ _) rfl ?_
  exact ⟨rfl, by unfold RDone; rw [E.out]; exact H3.out.base HBx.out HL.out⟩

set_option maxHeartbeats 1000000 in
set_option maxRecDepth 100000 in
theorem rmsg_t4all (t ri ai : Int) (h : RU w g d most s st v) (hw : s.wf most) (hq : s.still) (hE : putE t ri ai = 0) (h2 : t = 4) (hT : s.tei ≠ -1) (hx : ai ≠ s.tei) (hy : ai = 127) :
    Calls Try.prog 34 #[.pointer (some ⟨g, 0, none⟩), .agg #[.int .i64 t, .int .i64 ri, .int .i64 ai]] w fun e w' => e = .returned (.tuple #[]) ∧ RDone w g d most (uMsg (some q) s ([], st) t ri ai) w' := by
  obtain ⟨-, -, -, -, -, -, c6⟩ := h.cells
  have f6 := h.free 6
  have hgl := h.lt.1
  have hu : RU ((w.setCell ⟨g, 6, none⟩ (.slice none 0 0)).alloc (.cells #[.int .i64 t, .int .i64 ri, .int .i64 ai] 83)) g d most s st (.slice none 0 0) := (h.setOut _).below ((Below.refl _ _).alloc (Nat.le_refl _) _)
  have hR0 := RIn.here hu
  have hbx := at_new (w.setCell ⟨g, 6, none⟩ (.slice none 0 0)) (.cells #[.int .i64 t, .int .i64 ri, .int .i64 ai] 83)
  rw [show (w.setCell ⟨g, 6, none⟩ (.slice none 0 0)).heap.size = w.heap.size by simp [World.setCell]] at hbx
  have hHB : Only [g, d] w ((w.setCell ⟨g, 6, none⟩ (.slice none 0 0)).alloc (.cells #[.int .i64 t, .int .i64 ri, .int .i64 ai] 83)) := ((Only.refl _ _).setCell (Or.inl (by simp)) _).alloc _
  have HBx := Lib.hid hHB
  have HL := Lib.hid h.lt
  have HR0 := Lib.hid hR0
  have HX0 := Lib.hid hbx
  have HW := Lib.hid hw
  have HQ := Lib.hid hq
  clear h hu hR0 hbx hHB hw hq
  have e : uMsg (some q) s ([], st) t ri ai = ⟨[⟨0, 5, lcg st / 281474976710656, s.tei, 0⟩], 0, s, ([], lcg st)⟩ := by
    unfold uMsg; rw [if_neg (by omega), if_neg (fun h => by have := h.1; omega), if_neg (fun h => by have := h.2; omega), if_pos ⟨⟨hT, Or.inr hy⟩, h2⟩]; rfl
  have E := Lib.hid e
  clear e
  have hp := (wf_low HW.out hT).1
  clear hT
  have q1 : (ai == s.tei) = false := by simpa using hx
  have q2 : (ai == 127) = true := by simpa using hy
  clear hx hy
  subst h2
  have HE := Lib.hid hE
  clear hE
  go_enter Try.func34, Try.ntmps34
  go_wp2_with fail
  refine (rput_any _ _ _ _).mono ?_
  rintro e w1 ⟨x, rfl, b1⟩
  rw [HE.out]
  have hR1 := HR0.out.below b1
  have hb1 := (b1.block _ (lt_of_at HX0.out)).trans HX0.out
  obtain ⟨v1, hu1, -⟩ := id hR1
  obtain ⟨-, c1, c2, c3, c4, c5, -⟩ := hu1.cells
  have m0 := at_cell hb1 0
  have m1 := at_cell hb1 1
  have m2 := at_cell hb1 2
  simp at m0 m1 m2
  have HR := Lib.hid hR1
  have HU := Lib.hid hu1
  clear b1 hR1 hb1 hu1 c6 f6 HR0
  go_wp2_with fail
  go_quiet (fail)
  go_wp2_with fail
  obtain ⟨v2, hu2, g2, g3, g4, g5⟩ := (HR.out.drewN _)
  refine (rnext_nil _ hu2.src rfl).mono ?_
  rintro e w2 ⟨rfl, hs, k2⟩
  have hB := RIn.next hu2 g2 g3 g4 g5 hs k2
  have hu3 := hu2.ofsrc k2 hs
  obtain ⟨-, c1, -, -, -, -, -⟩ := hu3.cells
  have HB := Lib.hid hB
  clear hu2 hu3 g2 g3 g4 g5 hs k2 hB
  go_wp2_with fail
  refine (rsay_any 5 (lcg st / 281474976710656) s.tei _ HB.out (by simp)).mono ?_
  rintro e w3 ⟨rfl, h3⟩
  have H3 := Lib.hid h3
  clear h3
  go_wp2
  first
    | go_end0
    | refine bodyPost_ret (results_none rfl _ _ _) rfl ?_
  exact ⟨rfl, by unfold RDone; rw [E.out]; exact H3.out.base HBx.out HL.out⟩

set_option maxHeartbeats 1000000 in
set_option maxRecDepth 100000 in
theorem rmsg_t6none (t ri ai : Int) (h : RU w g d most s st v) (hw : s.wf most) (hq : s.still) (hE : putE t ri ai = 0) (h2 : t = 6) (hT : s.tei = -1) :
    Calls Try.prog 34 #[.pointer (some ⟨g, 0, none⟩), .agg #[.int .i64 t, .int .i64 ri, .int .i64 ai]] w fun e w' => e = .returned (.tuple #[]) ∧ RDone w g d most (uMsg (some q) s ([], st) t ri ai) w' := by
  obtain ⟨-, -, -, -, -, -, c6⟩ := h.cells
  have f6 := h.free 6
  have hgl := h.lt.1
  have hu : RU ((w.setCell ⟨g, 6, none⟩ (.slice none 0 0)).alloc (.cells #[.int .i64 t, .int .i64 ri, .int .i64 ai] 83)) g d most s st (.slice none 0 0) := (h.setOut _).below ((Below.refl _ _).alloc (Nat.le_refl _) _)
  have hR0 := RIn.here hu
  have hbx := at_new (w.setCell ⟨g, 6, none⟩ (.slice none 0 0)) (.cells #[.int .i64 t, .int .i64 ri, .int .i64 ai] 83)
  rw [show (w.setCell ⟨g, 6, none⟩ (.slice none 0 0)).heap.size = w.heap.size by simp [World.setCell]] at hbx
  have hHB : Only [g, d] w ((w.setCell ⟨g, 6, none⟩ (.slice none 0 0)).alloc (.cells #[.int .i64 t, .int .i64 ri, .int .i64 ai] 83)) := ((Only.refl _ _).setCell (Or.inl (by simp)) _).alloc _
  have HBx := Lib.hid hHB
  have HL := Lib.hid h.lt
  have HR0 := Lib.hid hR0
  have HX0 := Lib.hid hbx
  have HW := Lib.hid hw
  have HQ := Lib.hid hq
  clear h hu hR0 hbx hHB hw hq
  have e : uMsg (some q) s ([], st) t ri ai = ⟨[], 0, s, ([], st)⟩ := by
    unfold uMsg; rw [if_neg (by omega), if_neg (fun h => by have := h.1; omega), if_neg (fun h => h.1.1 hT), if_neg (fun h => h.1.1 hT)]
  have E := Lib.hid e
  clear e
  have HT := Lib.hid hT
  clear hT

  subst h2
  have HE := Lib.hid hE
  clear hE
  go_enter Try.func34, Try.ntmps34
  go_wp2_with fail
  refine (rput_any _ _ _ _).mono ?_
  rintro e w1 ⟨x, rfl, b1⟩
  rw [HE.out]
  have hR1 := HR0.out.below b1
  have hb1 := (b1.block _ (lt_of_at HX0.out)).trans HX0.out
  obtain ⟨v1, hu1, -⟩ := id hR1
  obtain ⟨-, c1, c2, c3, c4, c5, -⟩ := hu1.cells
  have m0 := at_cell hb1 0
  have m1 := at_cell hb1 1
  have m2 := at_cell hb1 2
  simp at m0 m1 m2
  have HR := Lib.hid hR1
  have HU := Lib.hid hu1
  clear b1 hR1 hb1 hu1 c6 f6 HR0
  rw [HT.out] at c1
  go_wp2_with fail
  go_quiet (fail)
  go_wp2
  first
    | go_end0
    | refine bodyPost_ret (results_none rfl _ _ _) rfl ?_
  exact ⟨rfl, by unfold RDone; rw [E.out]; exact (HR.out.drewN _).base HBx.out HL.out⟩

set_option maxHeartbeats 1000000 in
set_option maxRecDepth 100000 in
theorem rmsg_t6far (t ri ai : Int) (h : RU w g d most s st v) (hw : s.wf most) (hq : s.still) (hE : putE t ri ai = 0) (h2 : t = 6) (hT : s.tei ≠ -1) (hx : ai ≠ s.tei) (hy : ai ≠ 127) :
    Calls Try.prog 34 #[.pointer (some ⟨g, 0, none⟩), .agg #[.int .i64 t, .int .i64 ri, .int .i64 ai]] w fun e w' => e = .returned (.tuple #[]) ∧ RDone w g d most (uMsg (some q) s ([], st) t ri ai) w' := by
  obtain ⟨-, -, -, -, -, -, c6⟩ := h.cells
  have f6 := h.free 6
  have hgl := h.lt.1
  have hu : RU ((w.setCell ⟨g, 6, none⟩ (.slice none 0 0)).alloc (.cells #[.int .i64 t, .int .i64 ri, .int .i64 ai] 83)) g d most s st (.slice none 0 0) := (h.setOut _).below ((Below.refl _ _).alloc (Nat.le_refl _) _)
  have hR0 := RIn.here hu
  have hbx := at_new (w.setCell ⟨g, 6, none⟩ (.slice none 0 0)) (.cells #[.int .i64 t, .int .i64 ri, .int .i64 ai] 83)
  rw [show (w.setCell ⟨g, 6, none⟩ (.slice none 0 0)).heap.size = w.heap.size by simp [World.setCell]] at hbx
  have hHB : Only [g, d] w ((w.setCell ⟨g, 6, none⟩ (.slice none 0 0)).alloc (.cells #[.int .i64 t, .int .i64 ri, .int .i64 ai] 83)) := ((Only.refl _ _).setCell (Or.inl (by simp)) _).alloc _
  have HBx := Lib.hid hHB
  have HL := Lib.hid h.lt
  have HR0 := Lib.hid hR0
  have HX0 := Lib.hid hbx
  have HW := Lib.hid hw
  have HQ := Lib.hid hq
  clear h hu hR0 hbx hHB hw hq
  have e : uMsg (some q) s ([], st) t ri ai = ⟨[], 0, s, ([], st)⟩ := by
    unfold uMsg; rw [if_neg (by omega), if_neg (fun h => by have := h.1; omega), if_neg (fun h => h.1.2.elim hx hy), if_neg (fun h => h.1.2.elim hx hy)]
  have E := Lib.hid e
  clear e
  have hp := (wf_low HW.out hT).1
  clear hT
  have q1 : (ai == s.tei) = false := by simpa using hx
  have q2 : (ai == 127) = false := by simpa using hy
  clear hx hy
  subst h2
  have HE := Lib.hid hE
  clear hE
  go_enter Try.func34, Try.ntmps34
  go_wp2_with fail
  refine (rput_any _ _ _ _).mono ?_
  rintro e w1 ⟨x, rfl, b1⟩
  rw [HE.out]
  have hR1 := HR0.out.below b1
  have hb1 := (b1.block _ (lt_of_at HX0.out)).trans HX0.out
  obtain ⟨v1, hu1, -⟩ := id hR1
  obtain ⟨-, c1, c2, c3, c4, c5, -⟩ := hu1.cells
  have m0 := at_cell hb1 0
  have m1 := at_cell hb1 1
  have m2 := at_cell hb1 2
  simp at m0 m1 m2
  have HR := Lib.hid hR1
  have HU := Lib.hid hu1
  clear b1 hR1 hb1 hu1 c6 f6 HR0
  go_wp2_with fail
  go_quiet (fail)
  go_wp2
  first
    | go_end0
    | refine bodyPost_ret (results_none rfl _ _ _) rfl ?_
  exact ⟨rfl, by unfold RDone; rw [E.out]; exact (HR.out.drewN _).base HBx.out HL.out⟩

set_option maxHeartbeats 1000000 in
set_option maxRecDepth 100000 in
theorem rmsg_t6own (t ri ai : Int) (h : RU w g d most s st v) (hw : s.wf most) (hq : s.still) (hE : putE t ri ai = 0) (h2 : t = 6) (hT : s.tei ≠ -1) (hx : ai = s.tei) :
    Calls Try.prog 34 #[.pointer (some ⟨g, 0, none⟩), .agg #[.int .i64 t, .int .i64 ri, .int .i64 ai]] w fun e w' => e = .returned (.tuple #[]) ∧ RDone w g d most (uMsg (some q) s ([], st) t ri ai) w' := by
  obtain ⟨-, -, -, -, -, -, c6⟩ := h.cells
  have f6 := h.free 6
  have hgl := h.lt.1
  have hu : RU ((w.setCell ⟨g, 6, none⟩ (.slice none 0 0)).alloc (.cells #[.int .i64 t, .int .i64 ri, .int .i64 ai] 83)) g d most s st (.slice none 0 0) := (h.setOut _).below ((Below.refl _ _).alloc (Nat.le_refl _) _)
  have hR0 := RIn.here hu
  have hbx := at_new (w.setCell ⟨g, 6, none⟩ (.slice none 0 0)) (.cells #[.int .i64 t, .int .i64 ri, .int .i64 ai] 83)
  rw [show (w.setCell ⟨g, 6, none⟩ (.slice none 0 0)).heap.size = w.heap.size by simp [World.setCell]] at hbx
  have hHB : Only [g, d] w ((w.setCell ⟨g, 6, none⟩ (.slice none 0 0)).alloc (.cells #[.int .i64 t, .int .i64 ri, .int .i64 ai] 83)) := ((Only.refl _ _).setCell (Or.inl (by simp)) _).alloc _
  have HBx := Lib.hid hHB
  have HL := Lib.hid h.lt
  have HR0 := Lib.hid hR0
  have HX0 := Lib.hid hbx
  have HW := Lib.hid hw
  have HQ := Lib.hid hq
  clear h hu hR0 hbx hHB hw hq
  have e : uMsg (some q) s ([], st) t ri ai = ⟨[⟨2, 0, 0, 0, s.tei⟩], 0, uIdle, ([], st)⟩ := by
    unfold uMsg; rw [if_neg (by omega), if_neg (fun h => by have := h.1; omega), if_pos ⟨⟨hT, Or.inl hx⟩, Or.inr h2⟩]; rfl
  have E := Lib.hid e
  clear e
  have hi : (⟨-1, s.asking, s.ri, s.tries⟩ : US) = uIdle := by
    have hsa := (wf_low HW.out hT).2
    obtain ⟨z1, z2⟩ := HQ.out hsa
    rw [hsa, z1, z2]; rfl
  have HI := Lib.hid hi
  clear hi
  have hp := (wf_low HW.out hT).1
  clear hT
  have q1 : (ai == s.tei) = true := by simpa using hx
  clear hx
  subst h2
  have HE := Lib.hid hE
  clear hE
  go_enter Try.func34, Try.ntmps34
  go_wp2_with fail
  refine (rput_any _ _ _ _).mono ?_
  rintro e w1 ⟨x, rfl, b1⟩
  rw [HE.out]
  have hR1 := HR0.out.below b1
  have hb1 := (b1.block _ (lt_of_at HX0.out)).trans HX0.out
  obtain ⟨v1, hu1, -⟩ := id hR1
  obtain ⟨-, c1, c2, c3, c4, c5, -⟩ := hu1.cells
  have m0 := at_cell hb1 0
  have m1 := at_cell hb1 1
  have m2 := at_cell hb1 2
  simp at m0 m1 m2
  have HR := Lib.hid hR1
  have HU := Lib.hid hu1
  clear b1 hR1 hb1 hu1 c6 f6 HR0
  go_wp2_with fail
  go_quiet (fail)
  go_wp2_with fail
  refine (rlose_any _ (HR.out.drewN _) (by simp)).mono ?_
  rintro e w2 ⟨rfl, h3⟩
  rw [HI.out] at h3
  have H3 := Lib.hid h3
  clear h3
  go_wp2
  first
    | go_end0
    | refine bodyPost_ret (results_none rfl _ _ _) rfl ?_
  exact ⟨rfl, by unfold RDone; rw [E.out]; exact H3.out.base HBx.out HL.out⟩

set_option maxHeartbeats 1000000 in
set_option maxRecDepth 100000 in
theorem rmsg_t6all (t ri ai : Int) (h : RU w g d most s st v) (hw : s.wf most) (hq : s.still) (hE : putE t ri ai = 0) (h2 : t = 6) (hT : s.tei ≠ -1) (hx : ai ≠ s.tei) (hy : ai = 127) :
    Calls Try.prog 34 #[.pointer (some ⟨g, 0, none⟩), .agg #[.int .i64 t, .int .i64 ri, .int .i64 ai]] w fun e w' => e = .returned (.tuple #[]) ∧ RDone w g d most (uMsg (some q) s ([], st) t ri ai) w' := by
  obtain ⟨-, -, -, -, -, -, c6⟩ := h.cells
  have f6 := h.free 6
  have hgl := h.lt.1
  have hu : RU ((w.setCell ⟨g, 6, none⟩ (.slice none 0 0)).alloc (.cells #[.int .i64 t, .int .i64 ri, .int .i64 ai] 83)) g d most s st (.slice none 0 0) := (h.setOut _).below ((Below.refl _ _).alloc (Nat.le_refl _) _)
  have hR0 := RIn.here hu
  have hbx := at_new (w.setCell ⟨g, 6, none⟩ (.slice none 0 0)) (.cells #[.int .i64 t, .int .i64 ri, .int .i64 ai] 83)
  rw [show (w.setCell ⟨g, 6, none⟩ (.slice none 0 0)).heap.size = w.heap.size by simp [World.setCell]] at hbx
  have hHB : Only [g, d] w ((w.setCell ⟨g, 6, none⟩ (.slice none 0 0)).alloc (.cells #[.int .i64 t, .int .i64 ri, .int .i64 ai] 83)) := ((Only.refl _ _).setCell (Or.inl (by simp)) _).alloc _
  have HBx := Lib.hid hHB
  have HL := Lib.hid h.lt
  have HR0 := Lib.hid hR0
  have HX0 := Lib.hid hbx
  have HW := Lib.hid hw
  have HQ := Lib.hid hq
  clear h hu hR0 hbx hHB hw hq
  have e : uMsg (some q) s ([], st) t ri ai = ⟨[⟨2, 0, 0, 0, s.tei⟩], 0, uIdle, ([], st)⟩ := by
    unfold uMsg; rw [if_neg (by omega), if_neg (fun h => by have := h.1; omega), if_pos ⟨⟨hT, Or.inr hy⟩, Or.inr h2⟩]; rfl
  have E := Lib.hid e
  clear e
  have hi : (⟨-1, s.asking, s.ri, s.tries⟩ : US) = uIdle := by
    have hsa := (wf_low HW.out hT).2
    obtain ⟨z1, z2⟩ := HQ.out hsa
    rw [hsa, z1, z2]; rfl
  have HI := Lib.hid hi
  clear hi
  have hp := (wf_low HW.out hT).1
  clear hT
  have q1 : (ai == s.tei) = false := by simpa using hx
  have q2 : (ai == 127) = true := by simpa using hy
  clear hx hy
  subst h2
  have HE := Lib.hid hE
  clear hE
  go_enter Try.func34, Try.ntmps34
  go_wp2_with fail
  refine (rput_any _ _ _ _).mono ?_
  rintro e w1 ⟨x, rfl, b1⟩
  rw [HE.out]
  have hR1 := HR0.out.below b1
  have hb1 := (b1.block _ (lt_of_at HX0.out)).trans HX0.out
  obtain ⟨v1, hu1, -⟩ := id hR1
  obtain ⟨-, c1, c2, c3, c4, c5, -⟩ := hu1.cells
  have m0 := at_cell hb1 0
  have m1 := at_cell hb1 1
  have m2 := at_cell hb1 2
  simp at m0 m1 m2
  have HR := Lib.hid hR1
  have HU := Lib.hid hu1
  clear b1 hR1 hb1 hu1 c6 f6 HR0
  go_wp2_with fail
  go_quiet (fail)
  go_wp2_with fail
  refine (rlose_any _ (HR.out.drewN _) (by simp)).mono ?_
  rintro e w2 ⟨rfl, h3⟩
  rw [HI.out] at h3
  have H3 := Lib.hid h3
  clear h3
  go_wp2
  first
    | go_end0
    | refine bodyPost_ret (results_none rfl _ _ _) rfl ?_
  exact ⟨rfl, by unfold RDone; rw [E.out]; exact H3.out.base HBx.out HL.out⟩

theorem rmessage_any (t ri ai : Int) (h : RU w g d most s st v) (hw : s.wf most) (hq : s.still) :
    Calls Try.prog 34 #[.pointer (some ⟨g, 0, none⟩), .agg #[.int .i64 t, .int .i64 ri, .int .i64 ai]] w fun e w' => e = .returned (.tuple #[]) ∧ RDone w g d most (uMsg (some q) s ([], st) t ri ai) w' := by
  by_cases hE : putE t ri ai = 0
  · by_cases h2 : t = 2
    · rcases ha : s.asking with _ | _
      · by_cases hT : s.tei = -1
        · exact rmsg_t2none t ri ai h hw hq hE h2 ha hT
        · by_cases hx : ai = s.tei
          · exact rmsg_t2lose t ri ai h hw hq hE h2 ha hT hx
          · exact rmsg_t2far t ri ai h hw hq hE h2 ha hT hx
      · by_cases hx : ri = s.ri
        · by_cases h3 : ai < 64
          · exact rmsg_t2asklo t ri ai h hw hq hE h2 ha hx h3
          · by_cases h4 : 126 < ai
            · exact rmsg_t2askhi t ri ai h hw hq hE h2 ha hx h4
            · exact rmsg_takes t ri ai h hw hq hE ⟨h2, ha, hx, by omega, by omega⟩
        · exact rmsg_t2askri t ri ai h hw hq hE h2 ha hx
    · by_cases h4 : t = 4
      · by_cases hT : s.tei = -1
        · exact rmsg_t4none t ri ai h hw hq hE h4 hT
        · by_cases hx : ai = s.tei
          · exact rmsg_t4own t ri ai h hw hq hE h4 hT hx
          · by_cases hy : ai = 127
            · exact rmsg_t4all t ri ai h hw hq hE h4 hT hx hy
            · exact rmsg_t4far t ri ai h hw hq hE h4 hT hx hy
      · by_cases h6 : t = 6
        · by_cases hT : s.tei = -1
          · exact rmsg_t6none t ri ai h hw hq hE h6 hT
          · by_cases hx : ai = s.tei
            · exact rmsg_t6own t ri ai h hw hq hE h6 hT hx
            · by_cases hy : ai = 127
              · exact rmsg_t6all t ri ai h hw hq hE h6 hT hx hy
              · exact rmsg_t6far t ri ai h hw hq hE h6 hT hx hy
        · exact rmsg_other t ri ai h hw hq hE h2 h4 h6
  · exact rmsg_bad t ri ai h hw hq hE

end
end Go.Proofs.Ytffkbadjbnmnmaa.Mine
