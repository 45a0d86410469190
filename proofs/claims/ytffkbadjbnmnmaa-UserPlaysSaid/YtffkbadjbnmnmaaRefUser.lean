/- The reference's user in memory; the contracts of layer 16's reference: tell, say, idle, ask, lose, New; of layer 7's Put. -/
import Derived.Test.YtffkbadjbnmnmaaRefDrawU
import Derived.Test.YtffkbadjbnmnmaaUserW
namespace Go.Proofs.Ytffkbadjbnmnmaa.Mine
open Go.RowKit Go.Proofs.YtffkbadjbnmnmaaW.PrintWords
attribute [local go_sem] max_int min_int max_of_two min_of_two

theorem infoEf : (Try.prog.info? 95).map (fun i => (i.zero, i.size, i.bytes)) = some (some (.agg #[.int .i64 0, .int .i64 0, .int .i64 0, .int .i64 0, .int .i64 0]), 5, 40) := by kernel_rfl

/-- The reference's user in block g, its source in block d; what stands in Out is v. -/
def RU (w : World) (g d : Nat) (most : Int) (s : US) (st : Int) (v : Value) : Prop :=
  ∃ A c, w.heap[g]? = some (.cells #[.int .i64 most, .int .i64 s.tei, .bool s.asking, .int .i64 s.ri, .int .i64 s.tries, .pointer (some ⟨d, 0, none⟩), v] 59 (0, 0)) ∧
    w.heap[d]? = some (.cells #[.slice A 0 c, .int .i64 0, .int .u64 st] 78 (0, 0)) ∧ g ≠ d
theorem RU.off {w w' : World} {g d : Nat} {most : Int} {s : US} {st : Int} {v : Value} {S : List Nat} (h : RU w g d most s st v) (k : Only S w w') (hg : g ∉ S) (hd : d ∉ S) : RU w' g d most s st v := by
  obtain ⟨A, c, h1, h2, h3⟩ := h
  exact ⟨A, c, k.at h1 hg, k.at h2 hd, h3⟩
theorem RU.below {w w' : World} {g d : Nat} {most : Int} {s : US} {st : Int} {v : Value} (h : RU w g d most s st v) (k : Below w.heap.size w w') : RU w' g d most s st v := h.off (Only.of_below k []) (by simp) (by simp)
theorem RU.src {w : World} {g d : Nat} {most : Int} {s : US} {st : Int} {v : Value} (h : RU w g d most s st v) : RSrc w d d [] 0 st := by
  obtain ⟨A, c, h1, h2, h3⟩ := h
  exact ⟨A, c, h2, Nat.zero_le _, Nat.le_refl _, by simp, Or.inl rfl⟩
theorem RU.ofsrc {w w' : World} {g d : Nat} {most : Int} {s : US} {st st' : Int} {v : Value} (h : RU w g d most s st v) (k : Only [d] w w') (hs : RSrc w' d d [] 0 st') : RU w' g d most s st' v := by
  obtain ⟨A, c, h1, h2, h3⟩ := h
  obtain ⟨A', c', g1, -⟩ := hs
  exact ⟨A', c', k.at h1 (by simpa using h3), g1, h3⟩
theorem RU.cells {w : World} {g d : Nat} {most : Int} {s : US} {st : Int} {v : Value} (h : RU w g d most s st v) :
    w.cell? ⟨g, 0, none⟩ = some (.int .i64 most) ∧ w.cell? ⟨g, 1, none⟩ = some (.int .i64 s.tei) ∧ w.cell? ⟨g, 2, none⟩ = some (.bool s.asking) ∧ w.cell? ⟨g, 3, none⟩ = some (.int .i64 s.ri) ∧ w.cell? ⟨g, 4, none⟩ = some (.int .i64 s.tries) ∧ w.cell? ⟨g, 5, none⟩ = some (.pointer (some ⟨d, 0, none⟩)) ∧ w.cell? ⟨g, 6, none⟩ = some v := by
  obtain ⟨A, c, h1, -⟩ := h
  exact ⟨at_cell h1 0, at_cell h1 1, at_cell h1 2, at_cell h1 3, at_cell h1 4, at_cell h1 5, at_cell h1 6⟩
theorem RU.free {w : World} {g d : Nat} {most : Int} {s : US} {st : Int} {v : Value} (h : RU w g d most s st v) (i : Nat) : w.frozen? ⟨g, i, none⟩ = false := by
  obtain ⟨A, c, h1, -⟩ := h
  exact at_frozen h1 i
theorem RU.lt {w : World} {g d : Nat} {most : Int} {s : US} {st : Int} {v : Value} (h : RU w g d most s st v) : g < w.heap.size ∧ d < w.heap.size := by
  obtain ⟨A, c, h1, h2, -⟩ := h
  exact ⟨lt_of_at h1, lt_of_at h2⟩
section
variable {w : World} {g d : Nat} {most : Int} {s : US} {st : Int} {v : Value}
theorem RU.setTei (h : RU w g d most s st v) (x : Int) : RU (w.setCell ⟨g, 1, none⟩ (.int .i64 x)) g d most ⟨x, s.asking, s.ri, s.tries⟩ st v := by
  obtain ⟨A, c, h1, h2, h3⟩ := h
  exact ⟨A, c, by rw [at_set h1 1 _]; rfl, at_far h2 (fun e => h3 e.symm) _, h3⟩
theorem RU.setAsking (h : RU w g d most s st v) (x : Bool) : RU (w.setCell ⟨g, 2, none⟩ (.bool x)) g d most ⟨s.tei, x, s.ri, s.tries⟩ st v := by
  obtain ⟨A, c, h1, h2, h3⟩ := h
  exact ⟨A, c, by rw [at_set h1 2 _]; rfl, at_far h2 (fun e => h3 e.symm) _, h3⟩
theorem RU.setRi (h : RU w g d most s st v) (x : Int) : RU (w.setCell ⟨g, 3, none⟩ (.int .i64 x)) g d most ⟨s.tei, s.asking, x, s.tries⟩ st v := by
  obtain ⟨A, c, h1, h2, h3⟩ := h
  exact ⟨A, c, by rw [at_set h1 3 _]; rfl, at_far h2 (fun e => h3 e.symm) _, h3⟩
theorem RU.setTries (h : RU w g d most s st v) (x : Int) : RU (w.setCell ⟨g, 4, none⟩ (.int .i64 x)) g d most ⟨s.tei, s.asking, s.ri, x⟩ st v := by
  obtain ⟨A, c, h1, h2, h3⟩ := h
  exact ⟨A, c, by rw [at_set h1 4 _]; rfl, at_far h2 (fun e => h3 e.symm) _, h3⟩
theorem RU.setOut (h : RU w g d most s st v) (x : Value) : RU (w.setCell ⟨g, 6, none⟩ x) g d most s st x := by
  obtain ⟨A, c, h1, h2, h3⟩ := h
  exact ⟨A, c, by rw [at_set h1 6 _]; rfl, at_far h2 (fun e => h3 e.symm) _, h3⟩
end

/-- What stands in Out reads as these effects: a row of the call's own, behind B. -/
def Outs (w : World) (B : Nat) (v : Value) (o : List Ef) : Prop := w.ownsRow B 95 5 v o.length (efCells o)
/-- Within an act of the reference that began in w0. -/
def RIn (w0 : World) (g d : Nat) (most : Int) (s : US) (st : Int) (o : List Ef) (w : World) : Prop :=
  ∃ v, RU w g d most s st v ∧ Outs w w0.heap.size v o ∧ Only [g, d] w0 w ∧ g < w0.heap.size ∧ d < w0.heap.size
theorem efCells_append (a b : List Ef) : efCells (a ++ b) = efCells a ++ efCells b := by
  induction a with
  | nil => rfl
  | cons x a ih => show x.vals ++ efCells (a ++ b) = (x.vals ++ efCells a) ++ efCells b; rw [ih, List.append_assoc]
theorem RIn.set {w0 w w' : World} {g d : Nat} {most : Int} {s s' : US} {st : Int} {o : List Ef} (h : RIn w0 g d most s st o w) {i : Nat} {x : Value} (hw : w' = w.setCell ⟨g, i, none⟩ x) (hu : ∀ v, RU w g d most s st v → RU w' g d most s' st v) : RIn w0 g d most s' st o w' := by
  obtain ⟨v, h1, h2, h3, h4, h5⟩ := h
  subst hw
  exact ⟨v, hu v h1, ownsRow_setCell_below h2 (by exact h4) _, h3.setCell (Or.inl (by simp)) _, h4, h5⟩
theorem RIn.below {w0 w w' : World} {g d : Nat} {most : Int} {s : US} {st : Int} {o : List Ef} (h : RIn w0 g d most s st o w) (b : Below w.heap.size w w') : RIn w0 g d most s st o w' := by
  obtain ⟨v, h1, h2, h3, h4, h5⟩ := h
  refine ⟨v, h1.below b, ?_, h3.trans (Only.of_below b _), h4, h5⟩
  obtain ⟨a1, a2⟩ := h2
  refine ⟨a1, a2.imp id ?_⟩
  rintro ⟨g', cap, cur, b1, b2, b3, b4⟩
  exact ⟨g', cap, cur, b1, b2, (b.block _ (lt_of_at b3)).trans b3, b4⟩
theorem RIn.lt {w0 w : World} {g d : Nat} {most : Int} {s : US} {st : Int} {o : List Ef} (h : RIn w0 g d most s st o w) : g < w0.heap.size ∧ w0.heap.size ≤ w.heap.size ∧ g < w.heap.size := by
  obtain ⟨v, h1, h2, h3, h4, h5⟩ := h
  exact ⟨h4, h3.size, Nat.lt_of_lt_of_le h4 h3.size⟩

theorem RU.keepB {w w' : World} {g d B : Nat} {most : Int} {s : US} {st : Int} {v : Value} (h : RU w g d most s st v) (b : Below B w w') (hg : g < B) (hd : d < B) : RU w' g d most s st v := by
  obtain ⟨A, c, h1, h2, h3⟩ := h
  exact ⟨A, c, (b.block g hg).trans h1, (b.block d hd).trans h2, h3⟩

/-- Behind an append: the row, its frame, then the store. -/
theorem RIn.told {w0 w w1 : World} {g d : Nat} {most : Int} {s : US} {st : Int} {o : List Ef} {x : Ef} {v v1 : Value} (hu : RU w g d most s st v) (k : Only [g, d] w0 w) (hg : g < w0.heap.size) (hd : d < w0.heap.size)
    (ho : w1.ownsRow w0.heap.size 95 5 v1 (o.length + 1) (efCells o ++ x.vals)) (b : Below w0.heap.size w w1) : RIn w0 g d most s st (o ++ [x]) (w1.setCell ⟨g, 6, none⟩ v1) := by
  obtain ⟨A, c, h1, h2, h3⟩ := hu
  have hu1 : RU w1 g d most s st v := ⟨A, c, (b.block g hg).trans h1, (b.block d hd).trans h2, h3⟩
  refine ⟨v1, hu1.setOut v1, ?_, ?_, hg, hd⟩
  · unfold Outs
    rw [efCells_append, List.length_append]
    exact ownsRow_setCell_below (by simpa [efCells] using ho) (by exact hg) _
  · have k1 : Only [g, d] w0 w1 := ⟨b.os.trans k.os, b.tape.trans k.tape, b.output.trans k.output, Nat.le_trans k.size b.size, fun i hi hs => (b.block i hi).trans (k.block i hi hs)⟩
    exact k1.setCell (Or.inl (by simp)) _

set_option maxHeartbeats 1000000 in
theorem rtell_any {w0 : World} {g d : Nat} {most : Int} {s : US} {st : Int} {o : List Ef} (k tei : Int) (w : World) (h : RIn w0 g d most s st o w) (ho : o.length ≤ 1000) :
    Calls Try.prog 39 #[.pointer (some ⟨g, 0, none⟩), .int .i64 k, .int .i64 tei] w fun e w' => e = .returned (.tuple #[]) ∧ RIn w0 g d most s st (o ++ [⟨k, 0, 0, 0, tei⟩]) w' := by
  obtain ⟨v, h1, h2, h3, h4, h5⟩ := h
  obtain ⟨-, -, -, -, -, -, c6⟩ := h1.cells
  have f6 := h1.free 6
  obtain ⟨A', c', rfl⟩ := own_slice h2
  have hgl := h1.lt.1
  have H1 := Lib.hid h1
  have H2 := Lib.hid h2
  have H3 := Lib.hid h3
  clear h1 h2 h3
  go_enter Try.func39, Try.ntmps39
  go_wp2_with (at_builtin; refine print_append_cells (w0 := w) w0.heap.size rfl _ _ 57 95 (.agg #[.int .i64 0, .int .i64 0, .int .i64 0, .int .i64 0, .int .i64 0]) 5 40 rfl Try.underlying57 infoEf rfl (by decide) (by decide) _ o.length (efCells o) [.int .i64 k, .int .i64 0, .int .i64 0, .int .i64 0, .int .i64 tei] rfl rfl rfl (by simp [Value.oneCell']) ?c1 ?c2 ?c3 ?c4 ?c5)
  case c1 => exact H2.out
  case c2 => exact Below.refl _ _
  case c3 => exact H3.out.size
  case c4 => omega
  case c5 =>
    intro v1 w1 hown hb _ _
    obtain ⟨A1, c1, rfl⟩ := own_slice hown
    have hu1 : RU w1 g d most s st (.slice A' o.length c') := H1.out.keepB hb h4 h5
    obtain ⟨-, -, -, -, -, -, e6⟩ := hu1.cells
    have q6 := hu1.free 6
    have HO := Lib.hid hown
    have HB := Lib.hid hb
    clear hu1 hown hb c6 f6
    go_wp2
    go_end0
    exact ⟨rfl, RIn.told (x := ⟨k, 0, 0, 0, tei⟩) H1.out H3.out h4 h5 HO.out HB.out⟩

set_option maxHeartbeats 1000000 in
theorem rsay_any {w0 : World} {g d : Nat} {most : Int} {s : US} {st : Int} {o : List Ef} (t ri ai : Int) (w : World) (h : RIn w0 g d most s st o w) (ho : o.length ≤ 1000) :
    Calls Try.prog 38 #[.pointer (some ⟨g, 0, none⟩), .int .i64 t, .int .i64 ri, .int .i64 ai] w fun e w' => e = .returned (.tuple #[]) ∧ RIn w0 g d most s st (o ++ [⟨0, t, ri, ai, 0⟩]) w' := by
  obtain ⟨v, h1, h2, h3, h4, h5⟩ := h
  obtain ⟨-, -, -, -, -, -, c6⟩ := h1.cells
  have f6 := h1.free 6
  obtain ⟨A', c', rfl⟩ := own_slice h2
  have hgl := h1.lt.1
  have H1 := Lib.hid h1
  have H2 := Lib.hid h2
  have H3 := Lib.hid h3
  clear h1 h2 h3
  go_enter Try.func38, Try.ntmps38
  go_wp2_with (at_builtin; refine print_append_cells (w0 := w) w0.heap.size rfl _ _ 57 95 (.agg #[.int .i64 0, .int .i64 0, .int .i64 0, .int .i64 0, .int .i64 0]) 5 40 rfl Try.underlying57 infoEf rfl (by decide) (by decide) _ o.length (efCells o) [.int .i64 0, .int .i64 t, .int .i64 ri, .int .i64 ai, .int .i64 0] rfl rfl rfl (by simp [Value.oneCell']) ?c1 ?c2 ?c3 ?c4 ?c5)
  case c1 => exact H2.out
  case c2 => exact Below.refl _ _
  case c3 => exact H3.out.size
  case c4 => omega
  case c5 =>
    intro v1 w1 hown hb _ _
    obtain ⟨A1, c1, rfl⟩ := own_slice hown
    have hu1 : RU w1 g d most s st (.slice A' o.length c') := H1.out.keepB hb h4 h5
    obtain ⟨-, -, -, -, -, -, e6⟩ := hu1.cells
    have q6 := hu1.free 6
    have HO := Lib.hid hown
    have HB := Lib.hid hb
    clear hu1 hown hb c6 f6
    go_wp2
    go_end0
    exact ⟨rfl, RIn.told (x := ⟨0, t, ri, ai, 0⟩) H1.out H3.out h4 h5 HO.out HB.out⟩

theorem ridle_any {w0 : World} {g d : Nat} {most : Int} {s : US} {st : Int} {o : List Ef} (w : World) (h : RIn w0 g d most s st o w) :
    Calls Try.prog 40 #[.pointer (some ⟨g, 0, none⟩)] w fun e w' => e = .returned (.tuple #[]) ∧ RIn w0 g d most ⟨s.tei, false, 0, 0⟩ st o w' := by
  obtain ⟨v, h1, h2, h3, h4, h5⟩ := h
  obtain ⟨-, -, c2, c3, c4, -, -⟩ := h1.cells
  have f2 := h1.free 2
  have f3 := h1.free 3
  have f4 := h1.free 4
  have H := Lib.hid (show RIn w0 g d most s st o w from ⟨v, h1, h2, h3, h4, h5⟩)
  clear h1 h2 h3
  go_enter Try.func40, Try.ntmps40
  go_wp2
  go_end0
  exact ⟨rfl, ((H.out.set (s' := ⟨s.tei, false, s.ri, s.tries⟩) rfl (fun v h => h.setAsking false)).set (s' := ⟨s.tei, false, 0, s.tries⟩) rfl (fun v h => h.setRi 0)).set (s' := ⟨s.tei, false, 0, 0⟩) rfl (fun v h => h.setTries 0)⟩

theorem rlose_any {w0 : World} {g d : Nat} {most : Int} {s : US} {st : Int} {o : List Ef} (w : World) (h : RIn w0 g d most s st o w) (ho : o.length ≤ 1000) :
    Calls Try.prog 41 #[.pointer (some ⟨g, 0, none⟩)] w fun e w' => e = .returned (.tuple #[]) ∧ RIn w0 g d most ⟨-1, s.asking, s.ri, s.tries⟩ st (o ++ [⟨2, 0, 0, 0, s.tei⟩]) w' := by
  obtain ⟨v, h1, -⟩ := id h
  obtain ⟨-, c1, -, -, -, -, -⟩ := h1.cells
  have H := Lib.hid h
  clear h1 h
  go_enter Try.func41, Try.ntmps41
  go_wp2_with fail
  refine (rtell_any 2 s.tei _ H.out ho).mono ?_
  rintro e w1 ⟨rfl, h⟩
  obtain ⟨v1, h1, -⟩ := id h
  obtain ⟨-, d1, -, -, -, -, -⟩ := h1.cells
  have f1 := h1.free 1
  have H1 := Lib.hid h
  clear h1 h c1
  go_wp2
  go_end0
  exact ⟨rfl, H1.out.set (s' := ⟨-1, s.asking, s.ri, s.tries⟩) rfl (fun v h => h.setTei (-1))⟩

set_option maxHeartbeats 1000000 in
theorem rask_any {w0 : World} {g d : Nat} {most : Int} {s : US} {st : Int} {o : List Ef} (w : World) (h : RIn w0 g d most s st o w) (ho : o.length ≤ 900) :
    Calls Try.prog 37 #[.pointer (some ⟨g, 0, none⟩)] w fun e w' => e = .returned (.tuple #[]) ∧ RIn w0 g d most ⟨s.tei, true, lcg st / 281474976710656, s.tries⟩ (lcg st) (o ++ [⟨0, 1, lcg st / 281474976710656, 127, 0⟩] ++ [⟨4, 0, 0, 0, 0⟩]) w' := by
  obtain ⟨v, h1, -⟩ := id h
  obtain ⟨-, -, c2, -, -, c5, -⟩ := h1.cells
  have f2 := h1.free 2
  have hA := h.set (s' := ⟨s.tei, true, s.ri, s.tries⟩) rfl (fun v h => h.setAsking true)
  have HA := Lib.hid hA
  have HO := Lib.hid ho
  clear h1 h hA ho
  go_enter Try.func37, Try.ntmps37
  go_wp2_with fail
  obtain ⟨v2, h2, g2, g3, g4, g5⟩ := HA.out
  refine (rnext_nil _ h2.src rfl).mono ?_
  rintro e w2 ⟨rfl, hs, k2⟩
  have hu2 := h2.ofsrc k2 hs
  have hB : RIn w0 g d most ⟨s.tei, true, s.ri, s.tries⟩ (lcg st) o w2 := by
    refine ⟨v2, hu2, ?_, ?_, g4, g5⟩
    · obtain ⟨a1, a2⟩ := g2
      refine ⟨a1, a2.imp id ?_⟩
      rintro ⟨g', cap, cur, b1, b2, b3, b4⟩
      exact ⟨g', cap, cur, b1, b2, k2.at b3 (by simp; omega), b4⟩
    · exact g3.trans (k2.mono (by simp))
  obtain ⟨-, -, -, c3, -, -, -⟩ := hu2.cells
  have f3 := hu2.free 3
  have hC := hB.set (s' := ⟨s.tei, true, lcg st / 281474976710656, s.tries⟩) rfl (fun v h => h.setRi (lcg st / 281474976710656))
  have HC := Lib.hid hC
  clear h2 g2 g3 g4 g5 hs k2 hu2 hB hC
  go_wp2_with fail
  refine (rsay_any 1 (lcg st / 281474976710656) 127 _ HC.out (by have := HO.out; omega)).mono ?_
  rintro e w3 ⟨rfl, h3⟩
  have H3 := Lib.hid h3
  clear h3
  go_wp2_with fail
  refine (rtell_any 4 0 _ H3.out (by have := HO.out; simp; omega)).mono ?_
  rintro e w4 ⟨rfl, h4⟩
  have H4 := Lib.hid h4
  clear h4
  go_wp2
  go_end0
  exact ⟨rfl, H4.out⟩

/-- What an act of the reference leaves. -/
def RDone (w0 : World) (g d : Nat) (most : Int) (x : Did) (w : World) : Prop := RIn w0 g d most x.st x.pn.2 x.efs w
theorem RIn.start {w : World} {g d : Nat} {most : Int} {s : US} {st : Int} {v : Value} (h : RU w g d most s st v) : RIn w g d most s st [] (w.setCell ⟨g, 6, none⟩ (.slice none 0 0)) :=
  ⟨_, h.setOut _, own_nil _ _ _ _, (Only.refl _ _).setCell (Or.inl (by simp)) _, h.lt.1, h.lt.2⟩

set_option maxHeartbeats 1000000 in
theorem rnewu_any {d : Nat} {st : Int} (n : Int) (w : World) (h : RSrc w d d [] 0 st) :
    Calls Try.prog 20 #[.int .i64 n, .pointer (some ⟨d, 0, none⟩)] w fun e w' => e = .returned (.pointer (some ⟨w.heap.size, 0, none⟩)) ∧ RU w' w.heap.size d (max 1 (min n 32)) uIdle st (.slice none 0 0) ∧ Below w.heap.size w w' := by
  obtain ⟨A, c, h1, -⟩ := h
  have H := Lib.hid h1
  clear h1
  go_enter Try.func20, Try.ntmps20
  go_wp2
  all_goals go_ret
  all_goals
    refine ⟨rfl, ⟨A, c, ?_, at_alloc H.out _, by have := lt_of_at H.out; omega⟩, (Below.refl _ _).alloc (Nat.le_refl _) _⟩
    rw [at_new]
    first
      | (rw [show max 1 (min n 32) = 32 by omega]; rfl)
      | (rw [show max 1 (min n 32) = n by omega]; rfl)
      | (rw [show max 1 (min n 32) = 1 by omega]; rfl)
end Go.Proofs.Ytffkbadjbnmnmaa.Mine
