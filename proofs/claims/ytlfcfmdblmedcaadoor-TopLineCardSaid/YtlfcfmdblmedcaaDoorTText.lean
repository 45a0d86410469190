/- Rows of TopLine's texts, as a slice of structs holds them; small words on strings. -/
import Derived.Test.YtlfcfmdblmedcaaDoorTLookW
import Derived.Deep.Slices
import Derived.ChangeSame
namespace Go.Proofs.YtlfcfmdblmedcaaDoor.Mine
open Go.RowKit Go.ChangeShapes Go.WideShapes Go.Deep Go.Proofs.YtlfcfmdblmedcaaDoorW.PrintWords

structure TX where
  kind : Int
  ns : Int
  nr : Int
  pf : Bool
  info : ByteArray
instance : Inhabited TX := ⟨⟨0, 0, 0, false, ⟨#[]⟩⟩⟩
def TX.At (w : World) (ad : Addr) (x : TX) : Prop :=
  w.cell? ad = some (.int .i64 x.kind) ∧ w.cell? (ad.add 1) = some (.int .i64 x.ns) ∧ w.cell? (ad.add 2) = some (.int .i64 x.nr) ∧ w.cell? (ad.add 3) = some (.bool x.pf) ∧ w.cell? (ad.add 4) = some (.string x.info)

/-- Texts, as a slice holds them. -/
def ReadsTexts (w : World) (A : Option Addr) (l : List TX) : Prop :=
  0 < l.length → ∃ ad, A = some ad ∧ ∀ j, j < l.length → TX.At w (ad.add (j * 5)) (l.getD j default)

theorem cellsText : Tryd.prog.cellsOf 27 = 5 := by kernel_rfl
theorem cellsTInt : Tryd.prog.cellsOf 3 = 1 := by kernel_rfl
theorem cellsTBool : Tryd.prog.cellsOf 4 = 1 := by kernel_rfl
theorem cellsTStr : Tryd.prog.cellsOf 9 = 1 := by kernel_rfl

set_option maxRecDepth 100000 in
theorem text_cells {H : Type} {enc : TypeId × Value → H} {W : World} {base : Nat} {sp : Nat → Bool} {held : Bool} {fuel : Nat} {cs : List Value} {x : DataW H × List MemPlace}
    (h : DataW.trod enc Tryd.prog W base sp held fuel 27 cs = some x) :
    ∃ y : TX, cs = [.int .i64 y.kind, .int .i64 y.ns, .int .i64 y.nr, .bool y.pf, .string y.info] := by
  obtain ⟨xs, n', _, _, hlen, hxl, hfs⟩ := DataW.trod_struct Tryd.underlying27 h
  rw [cellsText] at hlen
  match cs, hlen with
  | [v0, v1, v2, v3, v4], _ =>
    match xs, hxl with
    | [y0, y1, y2, y3, y4], _ =>
      have g0 := hfs 0 _ rfl
      have g1 := hfs 1 _ rfl
      have g2 := hfs 2 _ rfl
      have g3 := hfs 3 _ rfl
      have g4 := hfs 4 _ rfl
      simp [cellsTInt, cellsTBool, cellsTStr] at g0 g1 g2 g3 g4
      obtain ⟨x0, e0, _, _⟩ := DataW.trod_int Tryd.underlying3 g0
      obtain ⟨x1, e1, _, _⟩ := DataW.trod_int Tryd.underlying3 g1
      obtain ⟨x2, e2, _, _⟩ := DataW.trod_int Tryd.underlying3 g2
      obtain ⟨x3, e3, _⟩ := DataW.trod_bool Tryd.underlying4 g3
      obtain ⟨x4, e4, _⟩ := DataW.trod_string Tryd.underlying9 g4
      simp at e0 e1 e2 e3 e4
      subst e0 e1 e2 e3 e4
      exact ⟨⟨x0, x1, x2, x3, x4⟩, rfl⟩

set_option maxRecDepth 100000 in
/-- An argument that is a slice of texts, opened. -/
theorem open_texts {H : Type} {enc : TypeId × Value → H} {W : World} {base : Nat} {sp : Nat → Bool} {held : Bool} {a : Option Addr} {len cap : Nat} {d : DataW H} {ps : List MemPlace}
    (h : DataW.Trod enc Tryd.prog W base sp held 22 (.slice a len cap) d ps) :
    ∃ l : List TX, l.length = len ∧ len ≤ cap ∧ ReadsTexts W a l := by
  obtain ⟨fuel, hf⟩ := h
  rcases open_slice Tryd.underlying22 hf with ⟨hcs, _⟩ | ⟨ad, l0, c0, m, n, D, Pl, hcs, _, hl, _, hm, _, hi⟩
  · simp [Value.cells] at hcs
    obtain ⟨rfl, rfl, rfl⟩ := hcs
    exact ⟨[], rfl, Nat.le_refl _, fun h => by simp at h⟩
  · simp [Value.cells] at hcs
    obtain ⟨rfl, rfl, rfl⟩ := hcs
    have hlm : len ≤ m := by rw [hm]; split <;> omega
    have key : ∀ j, j < len → ∃ x : TX, TX.At W (ad.add (j * 5)) x := by
      intro j hj
      obtain ⟨cs, h1, h2⟩ := hi j (by omega)
      rw [cellsText] at h1
      obtain ⟨_, hlen, hat⟩ := World.cells?_some h1
      obtain ⟨y, rfl⟩ := text_cells h2
      have q0 := hat 0 (by decide)
      have q1 := hat 1 (by decide)
      have q2 := hat 2 (by decide)
      have q3 := hat 3 (by decide)
      have q4 := hat 4 (by decide)
      rw [Deep.add_add, Nat.add_zero] at q0
      exact ⟨y, q0, q1, q2, q3, q4⟩
    obtain ⟨f, hf'⟩ := choose_lt (α := TX) key
    refine ⟨(List.range len).map f, by simp, hl, fun _ => ⟨ad, rfl, fun j hj => ?_⟩⟩
    have hjl : j < len := by simpa using hj
    have e : ((List.range len).map f).getD j default = f j := by simp [hjl]
    rw [e]
    exact hf' j hjl
set_option maxRecDepth 100000 in
theorem sized_texts {H : Type} {enc : TypeId × Value → H} {W : World} {base : Nat} {sp : Nat → Bool} {held : Bool} {a : Option Addr} {len cap : Nat} {d : DataW H} {ps : List MemPlace}
    (h : DataW.Trod enc Tryd.prog W base sp held 22 (.slice a len cap) d ps) : len ≤ 9223372036854775807 := by
  obtain ⟨fuel, hf⟩ := h
  rcases open_slice Tryd.underlying22 hf with ⟨hcs, _⟩ | ⟨ad, l0, c0, m, n, D, Pl, hcs, _, hl, hmax, _, _, _⟩
  · simp [Value.cells] at hcs
    omega
  · simp [Value.cells] at hcs
    unfold maxLen at hmax
    omega
theorem add_posT (ad : Addr) (n : Nat) (hn : n ≠ 0) : ad.add n = ⟨ad.block, ad.off + n, none⟩ := by
  unfold Addr.add
  rw [if_neg hn]
/-- What a later world still holds of a text. -/
theorem TX.At.later {w w' : World} {ad : Addr} {x : TX} (h : TX.At w ad x) (b : Below w.heap.size w w') :
    w'.cell? ad = some (.int .i64 x.kind) ∧ w'.cell? ⟨ad.block, ad.off + 1, none⟩ = some (.int .i64 x.ns) ∧ w'.cell? ⟨ad.block, ad.off + 2, none⟩ = some (.int .i64 x.nr) ∧ w'.cell? ⟨ad.block, ad.off + 3, none⟩ = some (.bool x.pf) ∧ w'.cell? ⟨ad.block, ad.off + 4, none⟩ = some (.string x.info) := by
  obtain ⟨h0, h1, h2, h3, h4⟩ := h
  rw [add_posT _ _ (by decide)] at h1 h2 h3 h4
  have go : ∀ {a : Addr} {v : Value}, w.cell? a = some v → w'.cell? a = some v := fun hc => (b.cell (World.block_lt_of_cell? w _ hc)).trans hc
  exact ⟨go h0, go h1, go h2, go h3, go h4⟩

theorem bytesOf_append (a b : ByteArray) : bytesOf (a ++ b) = bytesOf a ++ bytesOf b := by simp [bytesOf]
theorem bytesOf_take (s : ByteArray) (m : Nat) : bytesOf (s.extract 0 m) = (bytesOf s).take m := by
  rw [cut_str]
  exact bytesOf_str _ (fun x hx => bytes_range s x (List.mem_of_mem_take hx))
theorem bytesOf_drop (s : ByteArray) (m : Nat) : bytesOf (s.extract m s.size) = (bytesOf s).drop m := by
  rw [drop_str]
  exact bytesOf_str _ (fun x hx => bytes_range s x (List.mem_of_mem_drop hx))
theorem bytesOf_flag : bytesOf ⟨#[48, 49, 49, 49, 49, 49, 49, 48]⟩ = flagL := by decide
theorem bytesOf_ones : bytesOf ⟨#[49, 49, 49, 49, 49, 49, 49, 49]⟩ = onesL := by decide
theorem bytesOf_nil : bytesOf ⟨#[]⟩ = [] := by decide
end Go.Proofs.YtlfcfmdblmedcaaDoor.Mine
