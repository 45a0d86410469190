/- A script of layer 16's acts, as a slice of structs holds it; an act by value; a row of bools. -/
import Derived.Test.YtffkbadjbnmnmaaUserW
import Derived.Deep.Slices
import Derived.ChangeSame
namespace Go.Proofs.Ytffkbadjbnmnmaa.Mine
open Go.RowKit Go.ChangeShapes Go.WideShapes Go.Deep Go.Proofs.YtffkbadjbnmnmaaW.PrintWords

structure AV where
  d : Int
  t : Int
  r : Int
  a : Int
  own : Bool
  mine : Bool
deriving Inhabited
def AV.val (x : AV) : Value := .agg #[.int .i64 x.d, .int .i64 x.t, .int .i64 x.r, .int .i64 x.a, .bool x.own, .bool x.mine]
def AV.At (w : World) (ad : Addr) (x : AV) : Prop :=
  w.cell? ad = some (.int .i64 x.d) ∧ w.cell? (ad.add 1) = some (.int .i64 x.t) ∧ w.cell? (ad.add 2) = some (.int .i64 x.r) ∧ w.cell? (ad.add 3) = some (.int .i64 x.a) ∧ w.cell? (ad.add 4) = some (.bool x.own) ∧ w.cell? (ad.add 5) = some (.bool x.mine)

/-- A script of acts, as a slice holds it. -/
def ReadsUActs (w : World) (A : Option Addr) (l : List AV) : Prop :=
  0 < l.length → ∃ ad, A = some ad ∧ ∀ j, j < l.length → AV.At w (ad.add (j * 6)) (l.getD j default)

theorem cellsUAct : Try.prog.cellsOf 49 = 6 := by kernel_rfl
theorem cellsUInt : Try.prog.cellsOf 3 = 1 := by kernel_rfl
theorem cellsUBool : Try.prog.cellsOf 4 = 1 := by kernel_rfl

theorem act_cells {H : Type} {enc : TypeId × Value → H} {W : World} {base : Nat} {sp : Nat → Bool} {held : Bool} {fuel : Nat} {cs : List Value} {x : DataW H × List MemPlace}
    (h : DataW.trod enc Try.prog W base sp held fuel 49 cs = some x) :
    ∃ y : AV, cs = [.int .i64 y.d, .int .i64 y.t, .int .i64 y.r, .int .i64 y.a, .bool y.own, .bool y.mine] := by
  obtain ⟨xs, n', _, _, hlen, hxl, hfs⟩ := DataW.trod_struct Try.underlying49 h
  rw [cellsUAct] at hlen
  match cs, hlen with
  | [v0, v1, v2, v3, v4, v5], _ =>
    match xs, hxl with
    | [y0, y1, y2, y3, y4, y5], _ =>
      have g0 := hfs 0 _ rfl
      have g1 := hfs 1 _ rfl
      have g2 := hfs 2 _ rfl
      have g3 := hfs 3 _ rfl
      have g4 := hfs 4 _ rfl
      have g5 := hfs 5 _ rfl
      simp [cellsUInt, cellsUBool] at g0 g1 g2 g3 g4 g5
      obtain ⟨x0, e0, _, _⟩ := DataW.trod_int Try.underlying3 g0
      obtain ⟨x1, e1, _, _⟩ := DataW.trod_int Try.underlying3 g1
      obtain ⟨x2, e2, _, _⟩ := DataW.trod_int Try.underlying3 g2
      obtain ⟨x3, e3, _, _⟩ := DataW.trod_int Try.underlying3 g3
      obtain ⟨x4, e4, _⟩ := DataW.trod_bool Try.underlying4 g4
      obtain ⟨x5, e5, _⟩ := DataW.trod_bool Try.underlying4 g5
      simp at e0 e1 e2 e3 e4 e5
      subst e0 e1 e2 e3 e4 e5
      exact ⟨⟨x0, x1, x2, x3, x4, x5⟩, rfl⟩

/-- An act by value, opened. -/
theorem open_uact {H : Type} {enc : TypeId × Value → H} {W : World} {base : Nat} {sp : Nat → Bool} {held : Bool} {v : Value} {d : DataW H} {ps : List MemPlace}
    (h : DataW.Trod enc Try.prog W base sp held 49 v d ps) : ∃ x : AV, v = x.val := by
  obtain ⟨fuel, hf⟩ := h
  obtain ⟨y, hy⟩ := act_cells hf
  refine ⟨y, ?_⟩
  cases v <;> simp [Value.cells] at hy
  rename_i xs
  unfold AV.val
  congr 1
  exact Array.toList_inj.1 hy

/-- An argument that is a slice of acts, opened. -/
theorem open_uacts {H : Type} {enc : TypeId × Value → H} {W : World} {base : Nat} {sp : Nat → Bool} {held : Bool} {a : Option Addr} {len cap : Nat} {d : DataW H} {ps : List MemPlace}
    (h : DataW.Trod enc Try.prog W base sp held 47 (.slice a len cap) d ps) :
    ∃ l : List AV, l.length = len ∧ len ≤ cap ∧ ReadsUActs W a l := by
  obtain ⟨fuel, hf⟩ := h
  rcases open_slice Try.underlying47 hf with ⟨hcs, _⟩ | ⟨ad, l0, c0, m, n, D, Pl, hcs, _, hl, _, hm, _, hi⟩
  · simp [Value.cells] at hcs
    obtain ⟨rfl, rfl, rfl⟩ := hcs
    exact ⟨[], rfl, Nat.le_refl _, fun h => by simp at h⟩
  · simp [Value.cells] at hcs
    obtain ⟨rfl, rfl, rfl⟩ := hcs
    have hlm : len ≤ m := by rw [hm]; split <;> omega
    have key : ∀ j, j < len → ∃ x : AV, AV.At W (ad.add (j * 6)) x := by
      intro j hj
      obtain ⟨cs, h1, h2⟩ := hi j (by omega)
      rw [cellsUAct] at h1
      obtain ⟨_, hlen, hat⟩ := World.cells?_some h1
      obtain ⟨y, rfl⟩ := act_cells h2
      have q0 := hat 0 (by decide)
      have q1 := hat 1 (by decide)
      have q2 := hat 2 (by decide)
      have q3 := hat 3 (by decide)
      have q4 := hat 4 (by decide)
      have q5 := hat 5 (by decide)
      rw [Deep.add_add, Nat.add_zero] at q0
      exact ⟨y, q0, q1, q2, q3, q4, q5⟩
    obtain ⟨f, hf'⟩ := choose_lt (α := AV) key
    refine ⟨(List.range len).map f, by simp, hl, fun _ => ⟨ad, rfl, fun j hj => ?_⟩⟩
    have hjl : j < len := by simpa using hj
    have e : ((List.range len).map f).getD j default = f j := by simp [hjl]
    rw [e]
    exact hf' j hjl

theorem sized_uacts {H : Type} {enc : TypeId × Value → H} {W : World} {base : Nat} {sp : Nat → Bool} {held : Bool} {a : Option Addr} {len cap : Nat} {d : DataW H} {ps : List MemPlace}
    (h : DataW.Trod enc Try.prog W base sp held 47 (.slice a len cap) d ps) : len ≤ 9223372036854775807 := by
  obtain ⟨fuel, hf⟩ := h
  rcases open_slice Try.underlying47 hf with ⟨hcs, _⟩ | ⟨ad, l0, c0, m, n, D, Pl, hcs, _, hl, hmax, _, _, _⟩
  · simp [Value.cells] at hcs
    omega
  · simp [Value.cells] at hcs
    unfold maxLen at hmax
    omega

/-- A row of bools, as a slice holds it. -/
def ReadsUBools (w : World) (A : Option Addr) (l : List Bool) : Prop :=
  0 < l.length → ∃ ad, A = some ad ∧ ∀ j, j < l.length → w.cell? (ad.add j) = some (.bool (l.getD j false))
theorem open_ubools {H : Type} {enc : TypeId × Value → H} {W : World} {base : Nat} {held : Bool} {a : Option Addr} {len cap : Nat} {d : DataW H} {ps : List MemPlace}
    (h : DataW.Trod enc Try.prog W base (fun _ => true) held 23 (.slice a len cap) d ps) :
    ∃ l : List Bool, l.length = len ∧ len ≤ cap ∧ ReadsUBools W a l := by
  obtain ⟨fuel, hf⟩ := h
  rcases open_slice Try.underlying23 hf with ⟨hcs, _⟩ | ⟨ad, l0, c0, m, n, D, Pl, hcs, _, hl, _, hm, _, hi⟩
  · simp [Value.cells] at hcs
    obtain ⟨rfl, rfl, rfl⟩ := hcs
    exact ⟨[], rfl, Nat.le_refl _, fun h => by simp at h⟩
  · simp [Value.cells] at hcs
    obtain ⟨rfl, rfl, rfl⟩ := hcs
    have hlm : len ≤ m := by rw [hm]; split <;> omega
    have key : ∀ j, j < len → ∃ x : Bool, W.cell? (ad.add j) = some (.bool x) := by
      intro j hj
      obtain ⟨cs, h1, h2⟩ := hi j (by omega)
      rw [cellsUBool, Nat.mul_one] at h1
      obtain ⟨_, hlen, hat⟩ := World.cells?_some h1
      obtain ⟨y, rfl, _⟩ := DataW.trod_bool Try.underlying4 h2
      have q0 := hat 0 (by decide)
      rw [Deep.add_add, Nat.add_zero] at q0
      exact ⟨y, q0⟩
    obtain ⟨f, hf'⟩ := choose_lt (α := Bool) key
    refine ⟨(List.range len).map f, by simp, hl, fun _ => ⟨ad, rfl, fun j hj => ?_⟩⟩
    have hjl : j < len := by simpa using hj
    have e : ((List.range len).map f).getD j false = f j := by simp [hjl]
    rw [e]
    exact hf' j hjl
theorem sized_ubools {H : Type} {enc : TypeId × Value → H} {W : World} {base : Nat} {sp : Nat → Bool} {held : Bool} {a : Option Addr} {len cap : Nat} {d : DataW H} {ps : List MemPlace}
    (h : DataW.Trod enc Try.prog W base sp held 23 (.slice a len cap) d ps) : len ≤ 9223372036854775807 := by
  obtain ⟨fuel, hf⟩ := h
  rcases open_slice Try.underlying23 hf with ⟨hcs, _⟩ | ⟨ad, l0, c0, m, n, D, Pl, hcs, _, hl, hmax, _, _, _⟩
  · simp [Value.cells] at hcs
    omega
  · simp [Value.cells] at hcs
    unfold maxLen at hmax
    omega
end Go.Proofs.Ytffkbadjbnmnmaa.Mine
