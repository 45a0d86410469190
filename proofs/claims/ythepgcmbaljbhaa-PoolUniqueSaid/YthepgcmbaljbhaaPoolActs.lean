/- A script of acts, as a slice of structs of three numbers holds it; and who is listed where. -/
import Derived.Test.YthepgcmbaljbhaaPoolWakes
import Derived.Deep.Slices
import Derived.ChangeSame
namespace Go.Proofs.Ythepgcmbaljbhaa.Mine
open Go.RowKit Go.ChangeShapes Go.WideShapes Go.Deep Go.Proofs.YthepgcmbaljbhaaW.PrintWords

/-- A script of three numbers an act, as a slice holds it. -/
def ReadsActs (w : World) (A : Option Addr) (l : List (Int × Int × Int)) : Prop :=
  0 < l.length → ∃ ad, A = some ad ∧ ∀ j, j < l.length → w.cell? (ad.add (j * 3)) = some (.int .i64 (l.getD j (0, 0, 0)).1) ∧ w.cell? (ad.add (j * 3 + 1)) = some (.int .i64 (l.getD j (0, 0, 0)).2.1) ∧ w.cell? (ad.add (j * 3 + 2)) = some (.int .i64 (l.getD j (0, 0, 0)).2.2)


theorem cellsAct : Try.prog.cellsOf 40 = 3 := by kernel_rfl
theorem cellsInt : Try.prog.cellsOf 3 = 1 := by kernel_rfl

/-- An argument that is a slice of acts, opened. -/
theorem open_acts {H : Type} {enc : TypeId × Value → H} {W : World} {base : Nat} {sp : Nat → Bool} {held : Bool} {a : Option Addr} {len cap : Nat} {d : DataW H} {ps : List MemPlace}
    (h : DataW.Trod enc Try.prog W base sp held 32 (.slice a len cap) d ps) :
    ∃ l : List (Int × Int × Int), l.length = len ∧ len ≤ cap ∧ ReadsActs W a l := by
  obtain ⟨fuel, hf⟩ := h
  rcases open_slice Try.underlying32 hf with ⟨hcs, _⟩ | ⟨ad, l0, c0, m, n, D, Pl, hcs, _, hl, _, hm, _, hi⟩
  · simp [Value.cells] at hcs
    obtain ⟨rfl, rfl, rfl⟩ := hcs
    exact ⟨[], rfl, Nat.le_refl _, fun h => by simp at h⟩
  · simp [Value.cells] at hcs
    obtain ⟨rfl, rfl, rfl⟩ := hcs
    have hlm : len ≤ m := by rw [hm]; split <;> omega
    have key : ∀ j, j < len → ∃ x : Int × Int × Int, W.cell? (ad.add (j * 3)) = some (.int .i64 x.1) ∧ W.cell? (ad.add (j * 3 + 1)) = some (.int .i64 x.2.1) ∧ W.cell? (ad.add (j * 3 + 2)) = some (.int .i64 x.2.2) := by
      intro j hj
      obtain ⟨cs, h1, h2⟩ := hi j (by omega)
      rw [cellsAct] at h1
      obtain ⟨_, hlen, hat⟩ := World.cells?_some h1
      match cs, hlen with
      | [v0, v1, v2], _ =>
        obtain ⟨xs, n', _, _, _, hxl, hfs⟩ := DataW.trod_struct Try.underlying40 h2
        match xs, hxl with
        | [y0, y1, y2], _ =>
          have g0 := hfs 0 _ rfl
          have g1 := hfs 1 _ rfl
          have g2 := hfs 2 _ rfl
          simp [cellsInt] at g0 g1 g2
          obtain ⟨x0, e0, _, _⟩ := DataW.trod_int Try.underlying3 g0
          obtain ⟨x1, e1, _, _⟩ := DataW.trod_int Try.underlying3 g1
          obtain ⟨x2, e2, _, _⟩ := DataW.trod_int Try.underlying3 g2
          simp at e0 e1 e2
          subst e0 e1 e2
          have q0 := hat 0 (by decide)
          have q1 := hat 1 (by decide)
          have q2 := hat 2 (by decide)
          rw [Deep.add_add] at q0 q1 q2
          exact ⟨(x0, x1, x2), q0, q1, q2⟩
    obtain ⟨f, hf'⟩ := choose_lt (α := Int × Int × Int) key
    refine ⟨(List.range len).map f, by simp, hl, fun _ => ⟨ad, rfl, fun j hj => ?_⟩⟩
    have hjl : j < len := by simpa using hj
    have e : ((List.range len).map f).getD j (0, 0, 0) = f j := by simp [hjl]
    rw [e]
    exact hf' j hjl

theorem sized_acts {H : Type} {enc : TypeId × Value → H} {W : World} {base : Nat} {sp : Nat → Bool} {held : Bool} {a : Option Addr} {len cap : Nat} {d : DataW H} {ps : List MemPlace}
    (h : DataW.Trod enc Try.prog W base sp held 32 (.slice a len cap) d ps) : len ≤ 9223372036854775807 := by
  obtain ⟨fuel, hf⟩ := h
  rcases open_slice Try.underlying32 hf with ⟨hcs, _⟩ | ⟨ad, l0, c0, m, n, D, Pl, hcs, _, hl, hmax, _, _, _⟩
  · simp [Value.cells] at hcs
    omega
  · simp [Value.cells] at hcs
    unfold maxLen at hmax
    omega

/-- Who is listed where. -/
theorem listB_more (B : Nat) : ∀ d k, ∃ rest, listB B (k + d) = listB B k ++ rest
  | 0, k => ⟨[], by simp⟩
  | d + 1, k => by
    obtain ⟨rest, h⟩ := listB_more B d k
    refine ⟨rest ++ (if B.testBit (k + d) then [64 + ((k + d : Nat) : Int)] else []), ?_⟩
    rw [show k + (d + 1) = (k + d) + 1 by omega, listB, h, List.append_assoc]
theorem listB_at (B i : Nat) (hi : i < 63) (h : B.testBit i = true) : (listB B 63).getD (listB B i).length 0 = 64 + (i : Int) ∧ (listB B i).length < (listB B 63).length := by
  obtain ⟨rest, hr⟩ := listB_more B (63 - (i + 1)) (i + 1)
  rw [show i + 1 + (63 - (i + 1)) = 63 by omega] at hr
  have h1 : listB B (i + 1) = listB B i ++ [64 + (i : Int)] := by rw [listB, h]; rfl
  rw [hr, h1]
  constructor
  · simp
  · simp

/-- How many of those below T are listed. -/
def cntT (B : Nat) (T : Int) : Nat := (listB B (min 63 (T - 64).toNat)).length
theorem cnt_yes (B : Nat) (T : Int) (h : hasB B T = true) : (listB B 63).getD (cntT B T) 0 = T ∧ cntT B T < (listB B 63).length ∧ cntT B (T + 1) = cntT B T + 1 := by
  have hr : 64 ≤ T ∧ T ≤ 126 := by
    by_cases hr : 64 ≤ T ∧ T ≤ 126
    · exact hr
    · rw [hasB_none B T (by omega)] at h; cases h
  obtain ⟨i, hi⟩ : ∃ i : Nat, T = 64 + (i : Int) := ⟨(T - 64).toNat, by omega⟩
  subst hi
  have hi : i < 63 := by omega
  rw [hasB_at B i hi] at h
  have e1 : cntT B (64 + (i : Int)) = (listB B i).length := by unfold cntT; rw [show min 63 (64 + (i : Int) - 64).toNat = i by omega]
  have e2 : cntT B (64 + (i : Int) + 1) = (listB B (i + 1)).length := by unfold cntT; rw [show min 63 (64 + (i : Int) + 1 - 64).toNat = i + 1 by omega]
  obtain ⟨h1, h2⟩ := listB_at B i hi h
  rw [e1, e2]
  exact ⟨h1, h2, by rw [listB, h]; simp⟩
theorem cnt_no (B : Nat) (T : Int) (h : hasB B T = false) : cntT B (T + 1) = cntT B T := by
  unfold cntT
  by_cases hr : 64 ≤ T ∧ T ≤ 126
  · obtain ⟨i, hi⟩ : ∃ i : Nat, T = 64 + (i : Int) := ⟨(T - 64).toNat, by omega⟩
    subst hi
    rw [hasB_at B i (by omega)] at h
    rw [show min 63 (64 + (i : Int) - 64).toNat = i by omega, show min 63 (64 + (i : Int) + 1 - 64).toNat = i + 1 by omega, listB, h]
    simp
  · congr 2; omega
theorem cnt_all (B : Nat) : cntT B 130 = (listB B 63).length := rfl
theorem cnt_none (B : Nat) : cntT B (-1) = 0 := rfl
end Go.Proofs.Ythepgcmbaljbhaa.Mine
