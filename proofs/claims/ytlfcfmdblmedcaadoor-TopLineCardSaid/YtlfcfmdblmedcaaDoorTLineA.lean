/- TopLine's walk: what its rounds keep. -/
import Derived.Test.YtlfcfmdblmedcaaDoorTText
namespace Go.Proofs.YtlfcfmdblmedcaaDoor.Mine
open Go.RowKit Go.Proofs.YtlfcfmdblmedcaaDoorW.PrintWords

/-- Behind some rounds: the frames that are wanted, and the line. -/
structure LineR (w : World) (k : Nat) (want : Value) (Lb : ByteArray) (W : List FR) (wr : World) : Prop where
  row : wr.ownsRow w.heap.size 32 8 want W.length (frCells W)
  line : Line (bytesOf Lb) W
  size : Lb.size ≤ 6000 * k
  count : W.length ≤ k
  bel : Below w.heap.size w wr
theorem LineR.below {w wr w' : World} {k : Nat} {want : Value} {Lb : ByteArray} {W : List FR} (h : LineR w k want Lb W wr) (b : Below wr.heap.size wr w') : LineR w k want Lb W w' :=
  ⟨own_keep h.row (fun q hq => b.block q (own_lt h.row q hq)), h.line, h.size, h.count, h.bel.trans (b.mono h.bel.size)⟩
/-- At the end of a round's switch: the bits that go over the line, and the frames that are wanted. -/
def LineCut (w : World) (k : Nat) (Lb : ByteArray) (want bv : Value) (wc : World) : Prop :=
  ∃ (B : ByteArray) (W : List FR), bv = .string B ∧ B.size ≤ 5900 ∧ wc.ownsRow w.heap.size 32 8 want W.length (frCells W) ∧ Line (bytesOf Lb ++ (bytesOf B ++ flagL)) W ∧ W.length ≤ k + 1 ∧ Below w.heap.size w wc
section
variable {w wr : World} {i : Nat} {want : Value} {Lb : ByteArray} {W : List FR} {k ns nr : Int} {p : Bool} {info : ByteArray} {s : List Int} {y z : ByteArray}
theorem sent_frC (k ns nr : Int) (p : Bool) (info : ByteArray) : frC ⟨0, 64, true, k, p, ns, nr, bytesOf info, 0⟩ = [.int .i64 0, .int .i64 64, .bool true, .int .i64 k, .bool p, .int .i64 ns, .int .i64 nr, .string info] := by
  unfold frC
  rw [str_bytes]
/-- A frame as it is: appended. -/
theorem LineR.whole {w5 : World} {v1 : Value} (h : LineR w i want Lb W wr) (hF : FrOk k ns nr info) (S : Sent k ns nr p info s y z) (hown : w5.ownsRow w.heap.size 32 8 v1 (W.length + 1) (frCells W ++ [.int .i64 0, .int .i64 64, .bool true, .int .i64 k, .bool p, .int .i64 ns, .int .i64 nr, .string info])) (hgr : wr.grownBy w5 want.ownBlock) : LineCut w i Lb v1 (.string z) w5 := by
  refine ⟨z, W ++ [⟨0, 64, true, k, p, ns, nr, bytesOf info, 0⟩], rfl, by have := S.size; omega, ?_, ?_, by have := h.count; simp; omega, ?_⟩
  · rw [List.length_append, frCells_append]
    have e : frCells [⟨0, 64, true, k, p, ns, nr, bytesOf info, 0⟩] = [.int .i64 0, .int .i64 64, .bool true, .int .i64 k, .bool p, .int .i64 ns, .int .i64 nr, .string info] := by
      simp only [frCells, List.flatMap_cons, List.flatMap_nil, List.append_nil]
      exact sent_frC k ns nr p info
    rw [e]
    exact hown
  · have := h.line.whole p hF
    rw [S.bits, S.one]
    exact this
  · refine ⟨hgr.os.trans h.bel.os, hgr.tape.trans h.bel.tape, hgr.output.trans h.bel.output, Nat.le_trans h.bel.size hgr.size, fun b hb => ?_⟩
    exact (hgr.block b (Nat.lt_of_lt_of_le hb h.bel.size) (fun e => by have := (h.row.lt b e.symm).1; omega)).trans (h.bel.block b hb)
/-- One that is broken off. -/
theorem LineR.broken {w5 : World} {m : Nat} (h : LineR w i want Lb W wr) (S : Sent k ns nr p info s y z) (b : Below wr.heap.size wr w5) (hm : m + 16 < z.size + 0 ∨ m + 16 ≤ z.size) : LineCut w i Lb want (.string (z.extract 0 (8 + m) ++ ⟨#[49, 49, 49, 49, 49, 49, 49, 49]⟩)) w5 := by
  have hz := S.size
  have hlen : (encL s).length = z.size := by rw [← S.bits, bytesOf_length]
  have h5 := h.below b
  refine ⟨_, W, rfl, ?_, h5.row, ?_, by have := h.count; omega, h5.bel⟩
  · rw [ByteArray.size_append, ByteArray.size_extract]
    show _ + 8 ≤ _
    omega
  · rw [bytesOf_append, bytesOf_take, S.bits, bytesOf_ones]
    exact h.line.broken s m (by omega)
/-- One of whose content a bit was turned. -/
theorem LineR.turned {w5 : World} {m : Nat} {c : ByteArray} (h : LineR w i want Lb W wr) (S : Sent k ns nr p info s y z) (b : Below wr.heap.size wr w5) (hm : m + 16 < z.size) (hc : bytesOf c = turnL (encL s) (8 + m)) (hg : goods (feedP [] false 0 (turnL (encL s) (8 + m))).1 = []) : LineCut w i Lb want (.string c) w5 := by
  have hz := S.size
  have hlen : (encL s).length = z.size := by rw [← S.bits, bytesOf_length]
  have h5 := h.below b
  have hcs : c.size = z.size := by
    have := bytesOf_length c
    rw [hc] at this
    unfold turnL at this
    rw [List.length_set] at this
    omega
  refine ⟨_, W, rfl, by omega, h5.row, ?_, by have := h.count; omega, h5.bel⟩
  rw [hc]
  exact h.line.turned s (8 + m) (by omega) (by omega) hg
/-- The round's end. -/
theorem LineCut.next {want bv : Value} {wc : World} (h : LineCut w i Lb want bv wc) : ∃ B, bv = .string B ∧ B.size ≤ 5900 ∧ ∃ W', LineR w (i + 1) want (Lb ++ (B ++ ⟨#[48, 49, 49, 49, 49, 49, 49, 48]⟩)) W' wc ∨ 6000 * i < Lb.size := by
  obtain ⟨B, W', rfl, h1, h2, h3, h4, h5⟩ := h
  refine ⟨B, rfl, h1, W', ?_⟩
  by_cases hl : Lb.size ≤ 6000 * i
  · refine Or.inl ⟨h2, ?_, ?_, h4, h5⟩
    · rw [bytesOf_append, bytesOf_append, bytesOf_flag]
      exact h3
    · rw [ByteArray.size_append, ByteArray.size_append]
      show _ + (_ + 8) ≤ _
      omega
  · exact Or.inr (by omega)
end
/-- Behind some pieces: what the decoder has met, what is left of the line. -/
def LookInv (w1 : World) (g Bd Bg : Nat) (Lb : ByteArray) (D : List Int) (Lr : ByteArray) (wr : World) : Prop :=
  bytesOf Lb = D ++ bytesOf Lr ∧ ∃ gv v, LookS w1 g Bd Bg (feedP [] false 0 D).2.1 (feedP [] false 0 D).2.2.1 (feedP [] false 0 D).2.2.2 D.length (goods (feedP [] false 0 D).1) gv v wr
/-- A piece more. -/
theorem LookInv.go {w1 : World} {g Bd Bg : Nat} {Lb Lr Lr' b : ByteArray} {D : List Int} {w' : World} (h : bytesOf Lb = D ++ bytesOf Lr) (hb : bytesOf Lr = bytesOf b ++ bytesOf Lr')
    (hl : ∃ gv' v', LookS w1 g Bd Bg (feedP (feedP [] false 0 D).2.1 (feedP [] false 0 D).2.2.1 (feedP [] false 0 D).2.2.2 (bytesOf b)).2.1 (feedP (feedP [] false 0 D).2.1 (feedP [] false 0 D).2.2.1 (feedP [] false 0 D).2.2.2 (bytesOf b)).2.2.1 (feedP (feedP [] false 0 D).2.1 (feedP [] false 0 D).2.2.1 (feedP [] false 0 D).2.2.2 (bytesOf b)).2.2.2 (D.length + b.size) (goods (feedP [] false 0 D).1 ++ goods (feedP (feedP [] false 0 D).2.1 (feedP [] false 0 D).2.2.1 (feedP [] false 0 D).2.2.2 (bytesOf b)).1) gv' v' w') :
    LookInv w1 g Bd Bg Lb (D ++ bytesOf b) Lr' w' := by
  refine ⟨by rw [h, hb, List.append_assoc], ?_⟩
  rw [feedP_append]
  simp only [goods_append, List.length_append, bytesOf_length, Int.natCast_add]
  exact hl
theorem frCells_get : ∀ (l : List FR) (j i : Nat) (f : FR), l[j]? = some f → i < 8 → (frCells l)[j * 8 + i]? = (frC f)[i]?
  | [], j, i, f, h, _ => by simp at h
  | x :: l, 0, i, f, h, hi => by
    simp at h
    subst h
    have e : frCells (x :: l) = frC x ++ frCells l := rfl
    rw [e, Nat.zero_mul, Nat.zero_add, List.getElem?_append_left (by simpa [frC] using hi)]
  | x :: l, j + 1, i, f, h, hi => by
    have e : frCells (x :: l) = frC x ++ frCells l := rfl
    have hx : (frC x).length = 8 := rfl
    rw [e, List.getElem?_append_right (by rw [hx]; omega), hx, show (j + 1) * 8 + i - 8 = j * 8 + i by omega]
    exact frCells_get l j i f (by simpa using h) hi
section
variable {w1 wr : World} {g Bd Bg : Nat} {Lb Lr : ByteArray} {D : List Int}
theorem LookInv.bel (h : LookInv w1 g Bd Bg Lb D Lr wr) : Below w1.heap.size w1 wr := by obtain ⟨-, _, _, h⟩ := h; exact h.bel
theorem LookInv.sizes (h : LookInv w1 g Bd Bg Lb D Lr wr) (hb : IsBits (bytesOf Lb)) : Lb.size = D.length + Lr.size ∧ IsBits D ∧ IsBits (bytesOf Lr) ∧ (goods (feedP [] false 0 D).1).length ≤ D.length := by
  obtain ⟨h, -⟩ := h
  rw [h] at hb
  refine ⟨?_, fun x hx => hb x (by simp [hx]), fun x hx => hb x (by simp [hx]), Nat.le_trans (goods_length _) (feedP_count D [] false 0)⟩
  have h1 := bytesOf_length Lb
  rw [h, List.length_append, bytesOf_length] at h1
  omega
/-- A piece is looked at. -/
theorem look_piece (h : LookInv w1 g Bd Bg Lb D Lr wr) (hb : IsBits (bytesOf Lb)) (hs : Lb.size ≤ 1000000) (hT : Tabs w1) (hg : 1 < w1.heap.size ∧ w1.heap.size ≤ g ∧ g < Bd ∧ Bd < Bg) (b : ByteArray) (hk : b.size ≤ Lr.size) (hbb : ∀ x ∈ bytesOf b, x ∈ bytesOf Lr) :
    Calls Tryd.prog 13 #[.string b, .pointer (some ⟨Bd, 0, none⟩), .pointer (some ⟨Bg, 0, none⟩)] wr fun e w' => e = .returned (.tuple #[]) ∧ ∀ Lr', bytesOf Lr = bytesOf b ++ bytesOf Lr' → LookInv w1 g Bd Bg Lb (D ++ bytesOf b) Lr' w' := by
  obtain ⟨h1, h2, h3, h4⟩ := h.sizes hb
  obtain ⟨hDL, gv, v, hL⟩ := h
  refine (look_any b hL hT hg (fun x hx => h3 x (hbb x hx)) (by omega) (by omega) (by omega)).mono ?_
  rintro e w' ⟨rfl, hl⟩
  exact ⟨rfl, fun Lr' hr => LookInv.go hDL hr hl⟩
/-- What is left is looked at: all frames that came. -/
theorem look_rest {W : List FR} (h : LookInv w1 g Bd Bg Lb D Lr wr) (hb : Line (bytesOf Lb) W) (hs : Lb.size ≤ 1000000) (hT : Tabs w1) (hg : 1 < w1.heap.size ∧ w1.heap.size ≤ g ∧ g < Bd ∧ Bd < Bg) :
    Calls Tryd.prog 13 #[.string Lr, .pointer (some ⟨Bd, 0, none⟩), .pointer (some ⟨Bg, 0, none⟩)] wr fun e w' => e = .returned (.tuple #[]) ∧ Below w1.heap.size w1 w' ∧ ∃ gv, w'.heap[Bg]? = some (.cells #[gv] 25 (0, 0)) ∧ w'.ownsRow (Bg + 1) 32 8 gv W.length (frCells W) := by
  obtain ⟨evL, wL, hl1, hl2, hl3⟩ := hb
  obtain ⟨h1, h2, h3, h4⟩ := h.sizes hl3
  obtain ⟨hDL, gv, v, hL⟩ := h
  refine (look_any Lr hL hT hg h3 (by omega) (by omega) (by omega)).mono ?_
  rintro e w' ⟨rfl, hl⟩
  obtain ⟨-, gv3, v3, hL3⟩ := LookInv.go (Lr' := ⟨#[]⟩) hDL (by rw [bytesOf_nil, List.append_nil]) hl
  rw [← hDL, hl1] at hL3
  dsimp only at hL3
  rw [hl2] at hL3
  exact ⟨rfl, hL3.bel, gv3, hL3.bg, hL3.row⟩
end
end Go.Proofs.YtlfcfmdblmedcaaDoor.Mine
