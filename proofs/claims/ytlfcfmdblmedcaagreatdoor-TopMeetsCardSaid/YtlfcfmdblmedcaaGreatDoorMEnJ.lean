/- A frame comes, a timer is over: the calls' frame (Frame, Timeout), as relations. -/
import Derived.Test.YtlfcfmdblmedcaaGreatDoorMEnG
namespace Go.Proofs.YtlfcfmdblmedcaaGreatDoor.Mine
open Go.RowKit Go.Maps Go.Proofs.YtlfcfmdblmedcaaGreatDoorW.PrintWords

/-- What an entity has. -/
structure EN where
  most : Int
  st : Int
  tries : Int
  asked : Bool
  r0 : Bool
  r3 : Bool
  φ : FS
def EnG (w : World) (e rb fl q : Nat) (E : EN) (c : Nat) : Prop := EnAt w e rb fl q E.most E.st E.tries E.asked E.r0 E.r3 c E.φ
/-- A frame of the link with TEI 70. -/
structure FrV where
  cmd : Bool
  fk : Int
  pf : Bool
  ns : Int
  nr : Int
  info : ByteArray
def FrV.vals (f : FrV) : List Value := [.int .i64 0, .int .i64 70, .bool f.cmd, .int .i64 f.fk, .bool f.pf, .int .i64 f.ns, .int .i64 f.nr, .string f.info]
theorem FrV.len (f : FrV) : f.vals.length = 8 := rfl
theorem FrV.cell1 (f : FrV) : ∀ u ∈ f.vals, u.oneCell' = true := by
  intro u h
  simp [FrV.vals] at h
  rcases h with rfl | rfl | rfl | rfl | rfl | rfl | rfl | rfl <;> rfl
/-- Behind a call of an entity's: what it has, what it did. -/
def EnPost (E' : EN) (outs : List XE) (e rb fl q c : Nat) (w : World) (en : Ending) (w' : World) : Prop :=
  ∃ v, en = .returned v ∧ Tail w' w.heap.size 98 11 v outs.length (rowOf XE.vals outs) ∧ EnG w' e rb fl q E' (c + 10) ∧ Only [e, rb, fl, q] w w'
def FrameOk (E : EN) (f : FrV) (E' : EN) (outs : List XE) : Prop :=
  ∀ (w : World) (e rb fl q c : Nat), Tabs w → EnG w e rb fl q E c → c ≤ 1000000000 → Calls Tryz.prog 19 #[.pointer (some ⟨e, 0, none⟩), .agg f.vals.toArray] w (EnPost E' outs e rb fl q c w)
def TimeOk (E : EN) (t : Int) (E' : EN) (outs : List XE) : Prop :=
  ∀ (w : World) (e rb fl q c : Nat), EnG w e rb fl q E c → c ≤ 1000000000 → Calls Tryz.prog 20 #[.pointer (some ⟨e, 0, none⟩), .int .i64 t] w (EnPost E' outs e rb fl q c w)
theorem EnI.fresh {X : List (Nat × Array Value)} {w0 w : World} {e rb fl q : Nat} {most st tries : Int} {asked r0 r3 : Bool} {c : Nat} {φ : FS} (h : EnI X w0 w e rb fl q most st 70 tries asked r0 r3 c φ (.slice none 0 0) []) : EnAt w e rb fl q most st tries asked r0 r3 c φ :=
  ⟨h.box, h.runs, h.flow, Tail.nil _ _ _ _, Only.refl _ _, h.lt, fun _ hx => by cases hx⟩
section
variable {e rb fl q : Nat} {most st tries : Int} {asked r0 r3 : Bool} {c : Nat} {φ : FS}
set_option maxHeartbeats 2000000 in
theorem frame_78 (f : FrV) (E' : EN) (outs : List XE) (w : World) (HT : Tabs w) (h : EnAt w e rb fl q most st tries asked r0 r3 c φ) (hs : st = 7 ∨ st = 8) (hm : mayF f.fk f.cmd = true) (hc : carriesF f.fk f.info.size = true) (h6 : f.fk ≠ 6) (h'm : E'.most = most)
    (HIN : ∀ W ov, EnI [(w.heap.size, f.vals.toArray)] w W e rb fl q most st 70 tries asked r0 r3 c φ ov [] → Calls Tryz.prog 42 #[.pointer (some ⟨e, 0, none⟩), .agg f.vals.toArray] W fun en w' => en = .returned (.tuple #[]) ∧ ∃ ov', EnI [(w.heap.size, f.vals.toArray)] w w' e rb fl q most E'.st 70 E'.tries E'.asked E'.r0 E'.r3 (c + 10) E'.φ ov' outs) :
    Calls Tryz.prog 19 #[.pointer (some ⟨e, 0, none⟩), .agg f.vals.toArray] w (EnPost E' outs e rb fl q c w) := by
  obtain ⟨cmd, fk, pf, ns, nr, info⟩ := f
  obtain ⟨most', st', tries', asked', r0', r3', φ'⟩ := E'
  dsimp only at h'm HIN hm hc h6
  subst h'm
  simp only [FrV.vals] at HIN ⊢
  have q6 : (fk == 6) = false := by simpa using h6
  have q4 : (st == 4) = false := by rcases hs with rfl | rfl <;> rfl
  have q5 : (st == 5) = false := by rcases hs with rfl | rfl <;> rfl
  have q66 : (st == 6) = false := by rcases hs with rfl | rfl <;> rfl
  obtain ⟨c0, c1, c2, c3, c4, c5, c6, c7, c8⟩ := h.cells
  have hlt := h.lt.1
  have H := Lib.hid (EnI.push h #[.int .i64 0, .int .i64 70, .bool cmd, .int .i64 fk, .bool pf, .int .i64 ns, .int .i64 nr, .string info])
  have HI := Lib.hid HIN
  have HM := Lib.hid hm
  have HC := Lib.hid hc
  have HTT := Lib.hid (HT.below ((Below.refl w.heap.size w).alloc (Nat.le_refl _) (.cells #[.int .i64 0, .int .i64 70, .bool cmd, .int .i64 fk, .bool pf, .int .i64 ns, .int .i64 nr, .string info] 66)))
  clear h HIN hm hc h6 hs HT c0 c3 c4 c5 c6 c7 c8
  go_enter Tryz.func19, Tryz.ntmps19
  go_wp2_with fail
  refine (may_any _ _ _).mono ?_
  rw [HM.out]
  rintro en w1 ⟨rfl, rfl⟩
  go_wp2_with fail
  refine (carries_any _ _ _ HTT.out).mono ?_
  rw [HC.out]
  rintro en w1 ⟨rfl, rfl⟩
  go_wp2_with fail
  refine (HI.out _ _ H.out).mono ?_
  rintro en w2 ⟨rfl, ov2, h2⟩
  have H2 := Lib.hid h2
  clear h2 c1 c2
  go_wp2_with fail
  refine (done_any _ H2.out).mono ?_
  rintro en w3 ⟨rfl, h3, t3⟩
  obtain ⟨A, cp, rfl, _⟩ := t3.slice
  have H3 := Lib.hid h3
  have T3 := Lib.hid t3
  clear h3 t3
  go_wp2
  go_ret
  exact ⟨_, rfl, T3.out, H3.out.fresh, H3.out.only⟩
-- written by enh.py
set_option maxHeartbeats 2000000 in
theorem frame_5 (f : FrV) (E' : EN) (outs : List XE) (w : World) (HT : Tabs w) (h : EnAt w e rb fl q most 5 tries asked r0 r3 c φ) (hm : mayF f.fk f.cmd = true) (hc : carriesF f.fk f.info.size = true) (h6 : f.fk ≠ 6) (h'm : E'.most = most)
    (HIN : ∀ W ov, EnI [(w.heap.size, f.vals.toArray)] w W e rb fl q most 5 70 tries asked r0 r3 c φ ov [] → Calls Tryz.prog 40 #[.pointer (some ⟨e, 0, none⟩), .agg f.vals.toArray] W fun en w' => en = .returned (.tuple #[]) ∧ ∃ ov', EnI [(w.heap.size, f.vals.toArray)] w w' e rb fl q most E'.st 70 E'.tries E'.asked E'.r0 E'.r3 (c + 10) E'.φ ov' outs) :
    Calls Tryz.prog 19 #[.pointer (some ⟨e, 0, none⟩), .agg f.vals.toArray] w (EnPost E' outs e rb fl q c w) := by
  obtain ⟨cmd, fk, pf, ns, nr, info⟩ := f
  obtain ⟨most', st', tries', asked', r0', r3', φ'⟩ := E'
  dsimp only at h'm HIN hm hc h6
  subst h'm
  simp only [FrV.vals] at HIN ⊢
  have q6 : (fk == 6) = false := by simpa using h6
  obtain ⟨c0, c1, c2, c3, c4, c5, c6, c7, c8⟩ := h.cells
  have hlt := h.lt.1
  have H := Lib.hid (EnI.push h #[.int .i64 0, .int .i64 70, .bool cmd, .int .i64 fk, .bool pf, .int .i64 ns, .int .i64 nr, .string info])
  have HI := Lib.hid HIN
  have HM := Lib.hid hm
  have HC := Lib.hid hc
  have HTT := Lib.hid (HT.below ((Below.refl w.heap.size w).alloc (Nat.le_refl _) (.cells #[.int .i64 0, .int .i64 70, .bool cmd, .int .i64 fk, .bool pf, .int .i64 ns, .int .i64 nr, .string info] 66)))
  clear h HIN hm hc h6 HT c0 c3 c4 c5 c6 c7 c8
  go_enter Tryz.func19, Tryz.ntmps19
  go_wp2_with fail
  refine (may_any _ _ _).mono ?_
  rw [HM.out]
  rintro en w1 ⟨rfl, rfl⟩
  go_wp2_with fail
  refine (carries_any _ _ _ HTT.out).mono ?_
  rw [HC.out]
  rintro en w1 ⟨rfl, rfl⟩
  go_wp2_with fail
  refine (HI.out _ _ H.out).mono ?_
  rintro en w2 ⟨rfl, ov2, h2⟩
  have H2 := Lib.hid h2
  clear h2 c1 c2
  go_wp2_with fail
  refine (done_any _ H2.out).mono ?_
  rintro en w3 ⟨rfl, h3, t3⟩
  obtain ⟨A, cp, rfl, _⟩ := t3.slice
  have H3 := Lib.hid h3
  have T3 := Lib.hid t3
  clear h3 t3
  go_wp2
  go_ret
  exact ⟨_, rfl, T3.out, H3.out.fresh, H3.out.only⟩
set_option maxHeartbeats 2000000 in
theorem frame_4 (f : FrV) (E' : EN) (outs : List XE) (w : World) (HT : Tabs w) (h : EnAt w e rb fl q most 4 tries asked r0 r3 c φ) (hm : mayF f.fk f.cmd = true) (hc : carriesF f.fk f.info.size = true) (h6 : f.fk ≠ 6) (h'm : E'.most = most)
    (HIN : ∀ W ov, EnI [(w.heap.size, f.vals.toArray)] w W e rb fl q most 4 70 tries asked r0 r3 c φ ov [] → Calls Tryz.prog 39 #[.pointer (some ⟨e, 0, none⟩), .agg f.vals.toArray] W fun en w' => en = .returned (.tuple #[]) ∧ ∃ ov', EnI [(w.heap.size, f.vals.toArray)] w w' e rb fl q most E'.st 70 E'.tries E'.asked E'.r0 E'.r3 (c + 10) E'.φ ov' outs) :
    Calls Tryz.prog 19 #[.pointer (some ⟨e, 0, none⟩), .agg f.vals.toArray] w (EnPost E' outs e rb fl q c w) := by
  obtain ⟨cmd, fk, pf, ns, nr, info⟩ := f
  obtain ⟨most', st', tries', asked', r0', r3', φ'⟩ := E'
  dsimp only at h'm HIN hm hc h6
  subst h'm
  simp only [FrV.vals] at HIN ⊢
  have q6 : (fk == 6) = false := by simpa using h6
  obtain ⟨c0, c1, c2, c3, c4, c5, c6, c7, c8⟩ := h.cells
  have hlt := h.lt.1
  have H := Lib.hid (EnI.push h #[.int .i64 0, .int .i64 70, .bool cmd, .int .i64 fk, .bool pf, .int .i64 ns, .int .i64 nr, .string info])
  have HI := Lib.hid HIN
  have HM := Lib.hid hm
  have HC := Lib.hid hc
  have HTT := Lib.hid (HT.below ((Below.refl w.heap.size w).alloc (Nat.le_refl _) (.cells #[.int .i64 0, .int .i64 70, .bool cmd, .int .i64 fk, .bool pf, .int .i64 ns, .int .i64 nr, .string info] 66)))
  clear h HIN hm hc h6 HT c0 c3 c4 c5 c6 c7 c8
  go_enter Tryz.func19, Tryz.ntmps19
  go_wp2_with fail
  refine (may_any _ _ _).mono ?_
  rw [HM.out]
  rintro en w1 ⟨rfl, rfl⟩
  go_wp2_with fail
  refine (carries_any _ _ _ HTT.out).mono ?_
  rw [HC.out]
  rintro en w1 ⟨rfl, rfl⟩
  go_wp2_with fail
  refine (HI.out _ _ H.out).mono ?_
  rintro en w2 ⟨rfl, ov2, h2⟩
  have H2 := Lib.hid h2
  clear h2 c1 c2
  go_wp2_with fail
  refine (done_any _ H2.out).mono ?_
  rintro en w3 ⟨rfl, h3, t3⟩
  obtain ⟨A, cp, rfl, _⟩ := t3.slice
  have H3 := Lib.hid h3
  have T3 := Lib.hid t3
  clear h3 t3
  go_wp2
  go_ret
  exact ⟨_, rfl, T3.out, H3.out.fresh, H3.out.only⟩
end
/-- The states of a link's end. -/
def enC (m : Int) (t : Nat) : EN := ⟨m, 5, t, true, true, false, FS.zero⟩
def enO (m : Int) (t : Nat) : EN := ⟨m, 7, t, false, false, true, FS.zero⟩
def enR (m : Int) (t : Nat) : EN := ⟨m, 8, t, false, true, false, FS.zero⟩
def enA (m : Int) : EN := ⟨m, 4, 0, false, false, false, FS.zero⟩
/-- A payload was sent; the peer's came; it was answered. -/
def enS (m : Int) (t : Nat) (lv : Value) (s : ByteArray) : EN := ⟨m, 7, t, false, true, false, ⟨1, 0, 0, lv, [s], 1⟩⟩
def enT (m : Int) (t g o : Nat) (s : ByteArray) : EN := ⟨m, 7, t, false, true, false, ⟨1, 0, 1, .slice (some ⟨g, o, none⟩) 1 1, [s], 1⟩⟩
def enU (m : Int) (t g o : Nat) : EN := ⟨m, 7, t, false, false, true, ⟨1, 1, 1, .slice (some ⟨g, o, none⟩) 0 0, [], 0⟩⟩
def fS : FrV := ⟨true, 4, true, 0, 0, ⟨#[]⟩⟩
def fU : FrV := ⟨false, 8, true, 0, 0, ⟨#[]⟩⟩
def fQ : FrV := ⟨true, 1, true, 0, 0, ⟨#[]⟩⟩
def fP : FrV := ⟨false, 1, true, 0, 0, ⟨#[]⟩⟩
def fI (d : ByteArray) : FrV := ⟨true, 0, false, 0, 0, d⟩
def fA : FrV := ⟨false, 1, false, 0, 1, ⟨#[]⟩⟩
def xU : XE := xSend false 8 true 0 0 ⟨#[]⟩
def xP : XE := xSend false 1 true 0 0 ⟨#[]⟩
def xS : XE := xSend true 4 true 0 0 ⟨#[]⟩
def xQ : XE := xSend true 1 true 0 0 ⟨#[]⟩
def xA : XE := xSend false 1 false 0 1 ⟨#[]⟩
def xI (s : ByteArray) : XE := xSend true 0 false 0 0 s
theorem fr_C_S (m : Int) (t : Nat) : FrameOk (enC m t) fS (enC m t) [xU] := by
  intro w e rb fl q c HT h hc
  refine frame_5 fS _ _ w HT h (by decide) (by decide) (by decide) rfl (fun W ov h => ?_)
  refine (ic_S W h (by decide)).mono ?_
  rintro en w' ⟨rfl, ov', h'⟩
  exact ⟨rfl, ov', h'.more (by omega)⟩
theorem fr_C_U (m : Int) (t : Nat) : FrameOk (enC m t) fU (enO m t) [xTold 2 ⟨#[]⟩, xTimer 10 200, xTimer 9 203] := by
  intro w e rb fl q c HT h hc
  refine frame_5 fU _ _ w HT h (by decide) (by decide) (by decide) rfl (fun W ov h => ?_)
  refine (ic_U W h (by decide) (by omega)).mono ?_
  rintro en w' ⟨rfl, ov', h'⟩
  exact ⟨rfl, ov', h'.more (by omega)⟩
theorem fr_C_Q (m : Int) (t : Nat) : FrameOk (enC m t) fQ (enC m t) [] := by
  intro w e rb fl q c HT h hc
  refine frame_5 fQ _ _ w HT h (by decide) (by decide) (by decide) rfl (fun W ov h => ?_)
  refine (ic_R true W h).mono ?_
  rintro en w' ⟨rfl, ov', h'⟩
  exact ⟨rfl, ov', h'.more (by omega)⟩
theorem fr_C_P (m : Int) (t : Nat) : FrameOk (enC m t) fP (enC m t) [] := by
  intro w e rb fl q c HT h hc
  refine frame_5 fP _ _ w HT h (by decide) (by decide) (by decide) rfl (fun W ov h => ?_)
  refine (ic_R false W h).mono ?_
  rintro en w' ⟨rfl, ov', h'⟩
  exact ⟨rfl, ov', h'.more (by omega)⟩
theorem fr_A_S (m : Int) : FrameOk (enA m) fS (enO m 0) [xU, xTold 1 ⟨#[]⟩, xTimer 9 203] := by
  intro w e rb fl q c HT h hc
  refine frame_4 fS _ _ w HT h (by decide) (by decide) (by decide) rfl (fun W ov h => ?_)
  refine (ia_S W h (by decide) (by omega)).mono ?_
  rintro en w' ⟨rfl, ov', h'⟩
  exact ⟨rfl, ov', h'.more (by omega)⟩
theorem fr_O_S (m : Int) (t : Nat) : FrameOk (enO m t) fS (enO m t) [xU, xTold 7 ⟨#[70]⟩, xTimer 9 203] := by
  intro w e rb fl q c HT h hc
  refine frame_78 fS _ _ w HT h (by first | exact Or.inl rfl | exact Or.inr rfl) (by decide) (by decide) (by decide) rfl (fun W ov h => ?_)
  refine (io_S_open W h (by decide) (by omega)).mono ?_
  rintro en w' ⟨rfl, ov', h'⟩
  exact ⟨rfl, ov', h'.more (by omega)⟩
theorem fr_O_U (m : Int) (t : Nat) : FrameOk (enO m t) fU (enO m t) [xTold 7 ⟨#[67]⟩] := by
  intro w e rb fl q c HT h hc
  refine frame_78 fU _ _ w HT h (by first | exact Or.inl rfl | exact Or.inr rfl) (by decide) (by decide) (by decide) rfl (fun W ov h => ?_)
  refine (io_U W h (by decide)).mono ?_
  rintro en w' ⟨rfl, ov', h'⟩
  exact ⟨rfl, ov', h'.more (by omega)⟩
theorem fr_O_Q (m : Int) (t : Nat) : FrameOk (enO m t) fQ (enO m t) [xP, xTimer 9 203] := by
  intro w e rb fl q c HT h hc
  refine frame_78 fQ _ _ w HT h (by first | exact Or.inl rfl | exact Or.inr rfl) (by decide) (by decide) (by decide) rfl (fun W ov h => ?_)
  refine (io_Q_open W h (by decide) (by omega)).mono ?_
  rintro en w' ⟨rfl, ov', h'⟩
  exact ⟨rfl, ov', h'.more (by omega)⟩
theorem fr_O_P (m : Int) (t : Nat) : FrameOk (enO m t) fP (enO m t) [xTold 7 ⟨#[65]⟩, xTimer 9 203] := by
  intro w e rb fl q c HT h hc
  refine frame_78 fP _ _ w HT h (by first | exact Or.inl rfl | exact Or.inr rfl) (by decide) (by decide) (by decide) rfl (fun W ov h => ?_)
  refine (io_P_open W h (by decide) (by omega)).mono ?_
  rintro en w' ⟨rfl, ov', h'⟩
  exact ⟨rfl, ov', h'.more (by omega)⟩
theorem fr_R_S (m : Int) (t : Nat) : FrameOk (enR m t) fS (enO m t) [xU, xTold 7 ⟨#[70]⟩, xTimer 10 200, xTimer 9 203] := by
  intro w e rb fl q c HT h hc
  refine frame_78 fS _ _ w HT h (by first | exact Or.inl rfl | exact Or.inr rfl) (by decide) (by decide) (by decide) rfl (fun W ov h => ?_)
  refine (io_S_rec W h (by decide) (by omega)).mono ?_
  rintro en w' ⟨rfl, ov', h'⟩
  exact ⟨rfl, ov', h'.more (by omega)⟩
theorem fr_R_U (m : Int) (t : Nat) : FrameOk (enR m t) fU (enR m t) [xTold 7 ⟨#[67]⟩] := by
  intro w e rb fl q c HT h hc
  refine frame_78 fU _ _ w HT h (by first | exact Or.inl rfl | exact Or.inr rfl) (by decide) (by decide) (by decide) rfl (fun W ov h => ?_)
  refine (io_U W h (by decide)).mono ?_
  rintro en w' ⟨rfl, ov', h'⟩
  exact ⟨rfl, ov', h'.more (by omega)⟩
theorem fr_R_Q (m : Int) (t : Nat) : FrameOk (enR m t) fQ (enR m t) [xP] := by
  intro w e rb fl q c HT h hc
  refine frame_78 fQ _ _ w HT h (by first | exact Or.inl rfl | exact Or.inr rfl) (by decide) (by decide) (by decide) rfl (fun W ov h => ?_)
  refine (io_Q_rec W h (by decide)).mono ?_
  rintro en w' ⟨rfl, ov', h'⟩
  exact ⟨rfl, ov', h'.more (by omega)⟩
theorem fr_R_P (m : Int) (t : Nat) : FrameOk (enR m t) fP (enO m t) [xTimer 10 200, xTimer 9 203] := by
  intro w e rb fl q c HT h hc
  refine frame_78 fP _ _ w HT h (by first | exact Or.inl rfl | exact Or.inr rfl) (by decide) (by decide) (by decide) rfl (fun W ov h => ?_)
  refine (io_P_rec W h (by decide) (by omega)).mono ?_
  rintro en w' ⟨rfl, ov', h'⟩
  exact ⟨rfl, ov', h'.more (by omega)⟩
theorem fr_S_I (m : Int) (t g o cp : Nat) (s d : ByteArray) (hd : d.size ≤ 260) : FrameOk (enS m t (.slice (some ⟨g, o, none⟩) 1 cp) s) (fI d) (enT m t g o s) [xTold 5 d, xA] := by
  intro w e rb fl q c HT h hc
  refine frame_78 (fI d) _ _ w HT h (by first | exact Or.inl rfl | exact Or.inr rfl) (by simp [mayF, fI]) (by simp [carriesF, fI]; omega) (by simp [fI]) rfl (fun W ov h => ?_)
  refine (io_I g o cp s d W h (by decide)).mono ?_
  rintro en w' ⟨rfl, ov', h'⟩
  exact ⟨rfl, ov', h'.more (by omega)⟩
theorem fr_T_A (m : Int) (t g o : Nat) (s : ByteArray) : FrameOk (enT m t g o s) fA (enU m t g o) [xTimer 10 200, xTimer 9 203] := by
  intro w e rb fl q c HT h hc
  refine frame_78 fA _ _ w HT h (by first | exact Or.inl rfl | exact Or.inr rfl) (by decide) (by decide) (by decide) rfl (fun W ov h => ?_)
  refine (io_data g o s W h (by decide) (by omega)).mono ?_
  rintro en w' ⟨rfl, ov', h'⟩
  exact ⟨rfl, ov', h'.more (by omega)⟩
section
variable {e rb fl q : Nat} {most st tries : Int} {asked r0 r3 : Bool} {c : Nat} {φ : FS}
set_option maxHeartbeats 2000000 in
theorem to_C (m : Int) (t : Nat) (ht : (t : Int) < m ∧ t ≤ 1000) : TimeOk (enC m t) 200 (enC m (t + 1)) [xS, xTimer 9 200] := by
  intro w e rb fl q c h hcc
  have h : EnAt w e rb fl q m 5 t true true false c FS.zero := h
  obtain ⟨c0, c1, c2, c3, c4, c5, c6, c7, c8⟩ := h.cells
  obtain ⟨n, hn, hr⟩ := h.runs
  have hlook := hr.look 200 (by decide)
  rw [rf_0] at hlook
  have H := Lib.hid (EnI.more h (Nat.le_succ c))
  have HR := Lib.hid hr
  clear h c0 c2 c3 c4 c6 c7 c8 hr
  go_enter Tryz.func20, Tryz.ntmps20
  go_wp2_with (at_mapUpdate; refine wpList_store_run rfl _ _ _ rfl HR.out 200 false rfl rfl rfl (by decide) (by unfold maxLen; omega) ?_)
  intro w1 hr1 k1
  rw [rf_put0] at hr1
  have h1 := H.out.timer (by omega : n + 1 ≤ c + 1) hr1 k1
  clear hr1 k1 hlook c1 c5
  have c1 := h1.cells.2.1
  have H1 := Lib.hid h1
  have HT := Lib.hid ht
  clear h1 ht
  go_wp2_with fail
  refine (again_any t _ H1.out HT.out (by decide) (by omega)).mono ?_
  rintro en w2 ⟨rfl, ov2, h2⟩
  have H2 := Lib.hid h2
  clear h2 c1
  go_wp2_with fail
  refine (done_any _ H2.out).mono ?_
  rintro en w9 ⟨rfl, h9, t9⟩
  obtain ⟨A, cp, rfl, _⟩ := t9.slice
  have H9 := Lib.hid h9
  have T9 := Lib.hid t9
  clear h9 t9
  go_wp2
  go_ret
  exact ⟨_, rfl, T9.out, (H9.out.more (by omega)).fresh, H9.out.only⟩
set_option maxHeartbeats 2000000 in
theorem to_O (m : Int) (t : Nat) : TimeOk (enO m t) 203 (enR m 0) [xQ, xTimer 9 200] := by
  intro w e rb fl q c h hcc
  have h : EnAt w e rb fl q m 7 t false false true c FS.zero := h
  obtain ⟨c0, c1, c2, c3, c4, c5, c6, c7, c8⟩ := h.cells
  obtain ⟨n, hn, hr⟩ := h.runs
  have hlook := hr.look 203 (by decide)
  rw [rf_3] at hlook
  have H := Lib.hid (EnI.more h (Nat.le_succ c))
  have HR := Lib.hid hr
  clear h c0 c2 c3 c4 c6 c7 c8 hr
  go_enter Tryz.func20, Tryz.ntmps20
  go_wp2_with (at_mapUpdate; refine wpList_store_run rfl _ _ _ rfl HR.out 203 false rfl rfl rfl (by decide) (by unfold maxLen; omega) ?_)
  intro w1 hr1 k1
  rw [rf_put3] at hr1
  have h1 := H.out.timer (by omega : n + 1 ≤ c + 1) hr1 k1
  clear hr1 k1 hlook c1 c5
  have c1 := h1.cells.2.1
  have c3 := h1.cells.2.2.2.1
  have f3 := h1.froz 3
  have H1 := Lib.hid (h1.setTries 0)
  clear h1
  go_wp2_with fail
  refine (inquire_any _ H1.out (by decide) (by omega)).mono ?_
  rintro en w2 ⟨rfl, ov2, h2⟩
  have d1 := h2.cells.2.1
  have f1 := h2.froz 1
  have H2 := Lib.hid (h2.setSt 8)
  clear h2 c1 c3 f3
  go_wp2_with fail
  refine (done_any _ H2.out).mono ?_
  rintro en w9 ⟨rfl, h9, t9⟩
  obtain ⟨A, cp, rfl, _⟩ := t9.slice
  have H9 := Lib.hid h9
  have T9 := Lib.hid t9
  clear h9 t9
  go_wp2
  go_ret
  exact ⟨_, rfl, T9.out, (H9.out.more (by omega)).fresh, H9.out.only⟩
set_option maxHeartbeats 2000000 in
theorem to_R (m : Int) (t : Nat) (ht : (t : Int) < m ∧ t ≤ 1000) : TimeOk (enR m t) 200 (enR m (t + 1)) [xQ, xTimer 9 200] := by
  intro w e rb fl q c h hcc
  have h : EnAt w e rb fl q m 8 t false true false c FS.zero := h
  obtain ⟨c0, c1, c2, c3, c4, c5, c6, c7, c8⟩ := h.cells
  obtain ⟨n, hn, hr⟩ := h.runs
  have hlook := hr.look 200 (by decide)
  rw [rf_0] at hlook
  have H := Lib.hid (EnI.more h (Nat.le_succ c))
  have HR := Lib.hid hr
  clear h c0 c2 c3 c4 c6 c7 c8 hr
  go_enter Tryz.func20, Tryz.ntmps20
  go_wp2_with (at_mapUpdate; refine wpList_store_run rfl _ _ _ rfl HR.out 200 false rfl rfl rfl (by decide) (by unfold maxLen; omega) ?_)
  intro w1 hr1 k1
  rw [rf_put0] at hr1
  have h1 := H.out.timer (by omega : n + 1 ≤ c + 1) hr1 k1
  clear hr1 k1 hlook c1 c5
  have hne : ((t : Int) == m) = false := by simp; omega
  have ht2 : t ≤ 1000 := ht.2
  have c0 := h1.cells.1
  have c1 := h1.cells.2.1
  have c3 := h1.cells.2.2.2.1
  have H1 := Lib.hid h1
  clear h1 ht
  go_wp2_with fail
  go_quiet (fail)
  have h2 := H1.out.drewN nq
  clear c0 c1 c3
  generalize w1.drewN nq = W2 at *
  have c3 := h2.cells.2.2.2.1
  have f3 := h2.froz 3
  have H2 := Lib.hid (h2.setTries ((t : Int) + 1))
  clear h2
  go_wp2_with fail
  refine (inquire_any _ H2.out (by decide) (by omega)).mono ?_
  rintro en w3 ⟨rfl, ov3, h3⟩
  have H3 := Lib.hid h3
  clear h3 c3 f3
  go_wp2_with fail
  refine (done_any _ H3.out).mono ?_
  rintro en w9 ⟨rfl, h9, t9⟩
  obtain ⟨A, cp, rfl, _⟩ := t9.slice
  have H9 := Lib.hid h9
  have T9 := Lib.hid t9
  clear h9 t9
  go_wp2
  go_ret
  exact ⟨_, rfl, T9.out, (H9.out.more (by omega)).fresh, H9.out.only⟩
end
end Go.Proofs.YtlfcfmdblmedcaaGreatDoor.Mine
/- An entity gets its TEI, is asked. -/
namespace Go.Proofs.YtlfcfmdblmedcaaGreatDoor.Mine
open Go.RowKit Go.Maps Go.Proofs.YtlfcfmdblmedcaaGreatDoorW.PrintWords
section
variable {X : List (Nat × Array Value)} {w0 : World} {e rb fl q : Nat} {most st tries : Int} {asked r0 r3 : Bool} {c : Nat} {φ : FS} {ov : Value} {out : List XE}
set_option maxHeartbeats 1000000 in
theorem assign_any (N : Int) (w : World) (h : EnI [] w w e rb fl q N 1 (-1) 0 false false false 0 FS.zero (.slice none 0 0) []) :
    Calls Tryz.prog 15 #[.pointer (some ⟨e, 0, none⟩), .int .i64 70] w fun en w' => en = .returned (.tuple #[.slice none 0 0, .int .i64 0]) ∧ EnG w' e rb fl q (enA N) 0 ∧ Only [e, rb, fl, q] w w' := by
  obtain ⟨c0, c1, c2, c3, c4, c5, c6, c7, c8⟩ := h.cells
  have H := Lib.hid h
  clear h c0 c3 c4 c5 c7 c8
  go_enter Tryz.func15, Tryz.ntmps15
  go_wp2_with fail
  go_quiet (fail)
  have h1 := H.out.drewN nq
  clear c1 c2 c6
  generalize w.drewN nq = W1 at *
  have d1 := h1.cells.2.1
  have d2 := h1.cells.2.2.1
  have d6 := h1.cells.2.2.2.2.2.2.1
  have f1 := h1.froz 1
  have f2 := h1.froz 2
  have f6 := h1.froz 6
  have H2 := Lib.hid (((h1.setTei 70).setSt 4).setUnits)
  clear h1
  go_wp2_with fail
  clear d1 d2 d6 f1 f2 f6
  generalize ((W1.setCell ⟨e, 2, none⟩ (.int .i64 70)).setCell ⟨e, 1, none⟩ (.int .i64 4)).setCell ⟨e, 6, none⟩ (.slice none 0 0) = W2 at *
  go_loopw [46] (fun i wr => i = .int .i64 0 ∧ W2 = wr) (fun _ _ => 0)
  case atStart => exact ⟨rfl, rfl⟩
  case round =>
    obtain ⟨rfl, rfl⟩ := hrel
    go_wp2_with fail
    refine (done_any _ H2.out).mono ?_
    rintro en w3 ⟨rfl, h3, -⟩
    have H3 := Lib.hid h3
    clear h3
    go_wp2
    go_ret2
    exact ⟨rfl, H3.out.fresh, H3.out.only⟩
/-- The link is asked for. -/
theorem establish_A (N : Int) (w : World) (h : EnI X w0 w e rb fl q N 4 70 0 false false false c FS.zero ov out) (hl : out.length ≤ 700) (hc : c ≤ 1800000000) :
    Calls Tryz.prog 32 #[.pointer (some ⟨e, 0, none⟩)] w fun en w' => en = .returned (.int .i64 0) ∧ ∃ ov', EnI X w0 w' e rb fl q N 5 70 0 true true false (c + 1) FS.zero ov' (out ++ [xS] ++ [xTimer 9 200]) := by
  obtain ⟨c0, c1, c2, c3, c4, c5, c6, c7, c8⟩ := h.cells
  have f4 := h.froz 4
  have H := Lib.hid (h.setAsked true)
  clear h c0 c2 c3 c5 c6 c7 c8
  go_enter Tryz.func32, Tryz.ntmps32
  go_wp2_with fail
  refine (call_any _ H.out (by omega) (by omega)).mono ?_
  rintro en w1 ⟨rfl, ov1, h1⟩
  have H1 := Lib.hid h1
  clear h1 c1 c4 f4
  go_wp2
  go_ret
  exact ⟨rfl, _, H1.out⟩
/-- This side isn't busy. -/
theorem own_any (w : World) (h : EnI X w0 w e rb fl q most st 70 tries asked r0 r3 c FS.zero ov out) (hs : st = 5 ∨ st = 7 ∨ st = 8) :
    Calls Tryz.prog 35 #[.pointer (some ⟨e, 0, none⟩), .bool false] w fun en w' => (∃ x, en = .returned (.int .i64 x)) ∧ EnI X w0 w' e rb fl q most st 70 tries asked r0 r3 c FS.zero ov out := by
  obtain ⟨c0, c1, c2, c3, c4, c5, c6, c7, c8⟩ := h.cells
  have H := Lib.hid h
  clear h c0 c1 c2 c3 c4 c5 c6 c8
  rcases hs with rfl | hs
  · go_enter Tryz.func35, Tryz.ntmps35
    go_wp2_with fail
    refine (up_any _ H.out).mono ?_
    rintro en w1 ⟨rfl, rfl⟩
    go_wp2
    go_ret
    exact ⟨⟨_, rfl⟩, H.out⟩
  · have hs' : (st == 7 || st == 8) = true := by rcases hs with rfl | rfl <;> rfl
    clear hs
    go_enter Tryz.func35, Tryz.ntmps35
    go_wp2_with fail
    refine (up_any _ H.out).mono ?_
    rw [hs']
    rintro en w1 ⟨rfl, rfl⟩
    go_wp2_with fail
    refine (setOwn_z fl q 7 256 _ H.out.flow.z).mono ?_
    rintro en w1 ⟨rfl, n, rfl⟩
    have H1 := Lib.hid (H.out.drewN n)
    clear c7
    go_wp2
    go_ret
    exact ⟨⟨_, rfl⟩, H1.out⟩
/-- A payload is to be sent. -/
theorem data_any (s : ByteArray) (w : World) (h : EnI X w0 w e rb fl q most 7 70 tries asked false true c FS.zero ov out) (hs : s.size ≤ 260) (hl : out.length ≤ 700) (hc : c ≤ 1800000000) :
    Calls Tryz.prog 34 #[.pointer (some ⟨e, 0, none⟩), .string s] w fun en w' => en = .returned (.int .i64 0) ∧ ∃ ov' g o cp, w.heap.size ≤ g ∧ EnI X w0 w' e rb fl q most 7 70 tries asked true false (c + 1 + 1) ⟨1, 0, 0, .slice (some ⟨g, o, none⟩) 1 cp, [s], 1⟩ ov' (out ++ [xI s] ++ [xTimer 10 203] ++ [xTimer 9 200]) := by
  obtain ⟨c0, c1, c2, c3, c4, c5, c6, c7, c8⟩ := h.cells
  have H := Lib.hid h
  have HS := Lib.hid hs
  clear h c0 c2 c3 c4 c5 c6 c8 hs
  go_enter Tryz.func34, Tryz.ntmps34
  go_wp2_with fail
  refine (up_any _ H.out).mono ?_
  rintro en w1 ⟨rfl, rfl⟩
  go_wp2_with fail
  refine (push_d fl q s _ H.out.flow HS.out).mono ?_
  rintro en w1 ⟨rfl, lv, hf1, hb1, k1⟩
  have h1 := H.out.flowTurn hf1 k1 (by simp)
  obtain ⟨g, o, cp, rfl⟩ : ∃ g o cp, lv = .slice (some ⟨g, o, none⟩) 1 cp := by
    rcases hf1.row.2 with ⟨-, h0⟩ | ⟨g, o, cp, cur, h0, -⟩
    · cases h0
    · exact ⟨g, o, cp, h0⟩
  have hg := hb1 g rfl
  have H1 := Lib.hid h1
  clear h1 hf1 hb1 k1 c1 c7
  go_wp2_with fail
  refine (goOn_some g o cp s _ H1.out (by omega) (by omega)).mono ?_
  rintro en w2 ⟨rfl, ov2, h2⟩
  have H2 := Lib.hid h2
  clear h2
  go_wp2
  go_ret
  exact ⟨rfl, _, g, o, cp, hg, H2.out⟩
/-- What an Ask tells: an errno, and what was done. -/
def AskPost (bad : Int) (E' : EN) (outs : List XE) (e rb fl q c : Nat) (w : World) (en : Ending) (w' : World) : Prop :=
  ∃ v, en = .returned (.tuple #[v, .int .i64 bad]) ∧ Tail w' w.heap.size 98 11 v outs.length (rowOf XE.vals outs) ∧ EnG w' e rb fl q E' (c + 10) ∧ Only [e, rb, fl, q] w w'
set_option maxHeartbeats 1000000 in
theorem ask_est (N : Int) (w : World) (h : EnG w e rb fl q (enA N) c) (hc : c ≤ 1000000000) :
    Calls Tryz.prog 17 #[.pointer (some ⟨e, 0, none⟩), .int .i64 0, .string ⟨#[]⟩] w (AskPost 0 (enC N 0) [xS, xTimer 9 200] e rb fl q c w) := by
  have H := Lib.hid (show EnI [] w w e rb fl q N 4 70 0 false false false c FS.zero (.slice none 0 0) [] from h)
  clear h
  go_enter Tryz.func17, Tryz.ntmps17
  go_wp2_with fail
  refine (establish_A N _ H.out (by decide) (by omega)).mono ?_
  rintro en w1 ⟨rfl, ov1, h1⟩
  have H1 := Lib.hid h1
  clear h1
  go_wp2_with fail
  refine (done_any _ H1.out).mono ?_
  rintro en w9 ⟨rfl, h9, t9⟩
  obtain ⟨A, cp, rfl, _⟩ := t9.slice
  have H9 := Lib.hid h9
  have T9 := Lib.hid t9
  clear h9 t9
  go_wp2
  go_ret2
  exact ⟨_, rfl, T9.out, (H9.out.more (by omega)).fresh, H9.out.only⟩
set_option maxHeartbeats 1000000 in
theorem ask_ready (E : EN) (w : World) (h : EnG w e rb fl q E c) (hs : E.st = 5 ∨ E.st = 7 ∨ E.st = 8) (hφ : E.φ = FS.zero) :
    Calls Tryz.prog 17 #[.pointer (some ⟨e, 0, none⟩), .int .i64 5, .string ⟨#[]⟩] w fun en w' => ∃ bad, AskPost bad E [] e rb fl q c w en w' := by
  obtain ⟨most, st, tries, asked, r0, r3, φ⟩ := E
  dsimp only at hs hφ
  subst hφ
  have H := Lib.hid (show EnI [] w w e rb fl q most st 70 tries asked r0 r3 c FS.zero (.slice none 0 0) [] from h)
  have HS := Lib.hid hs
  clear h hs
  go_enter Tryz.func17, Tryz.ntmps17
  go_wp2_with fail
  refine (own_any _ H.out HS.out).mono ?_
  rintro en w1 ⟨⟨x, rfl⟩, h1⟩
  have H1 := Lib.hid h1
  clear h1
  go_wp2_with fail
  refine (done_any _ H1.out).mono ?_
  rintro en w9 ⟨rfl, h9, t9⟩
  obtain ⟨A, cp, hA, _⟩ := t9.slice
  have H9 := Lib.hid h9
  have T9 := Lib.hid t9
  clear h9 t9 hA
  go_wp2
  go_ret2
  exact ⟨_, _, rfl, T9.out, (H9.out.more (by omega)).fresh, H9.out.only⟩
set_option maxHeartbeats 1000000 in
theorem ask_data (m : Int) (t : Nat) (s : ByteArray) (w : World) (h : EnG w e rb fl q (enO m t) c) (hs : s.size = 2) (hc : c ≤ 1000000000) :
    Calls Tryz.prog 17 #[.pointer (some ⟨e, 0, none⟩), .int .i64 2, .string s] w fun en w' => ∃ g o cp, w.heap.size ≤ g ∧ AskPost 0 (enS m t (.slice (some ⟨g, o, none⟩) 1 cp) s) [xI s, xTimer 10 203, xTimer 9 200] e rb fl q c w en w' := by
  have H := Lib.hid (show EnI [] w w e rb fl q m 7 70 t false false true c FS.zero (.slice none 0 0) [] from h)
  have hss : (s.size : Int) = 2 := by omega
  have HS := Lib.hid hs
  clear h hs
  go_enter Tryz.func17, Tryz.ntmps17
  go_wp2_with fail
  refine (data_any s _ H.out (by have := HS.out; omega) (by decide) (by omega)).mono ?_
  rintro en w1 ⟨rfl, ov1, g, o, cp, hg, h1⟩
  have H1 := Lib.hid h1
  have HG := Lib.hid hg
  clear h1 hg
  go_wp2_with fail
  refine (done_any _ H1.out).mono ?_
  rintro en w9 ⟨rfl, h9, t9⟩
  obtain ⟨A, cp9, rfl, _⟩ := t9.slice
  have H9 := Lib.hid h9
  have T9 := Lib.hid t9
  clear h9 t9
  go_wp2
  go_ret2
  exact ⟨g, o, cp, HG.out, _, rfl, T9.out, (H9.out.more (by omega)).fresh, H9.out.only⟩
end
end Go.Proofs.YtlfcfmdblmedcaaGreatDoor.Mine
