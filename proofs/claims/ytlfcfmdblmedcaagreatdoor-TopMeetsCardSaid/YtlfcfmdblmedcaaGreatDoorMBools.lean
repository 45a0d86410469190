/- A row of bools, as a slice holds it (turned from this session's UserActs text). -/
import Derived.Test.YtlfcfmdblmedcaaGreatDoorTMay
import Derived.Deep.Slices
import Derived.ChangeSame
namespace Go.Proofs.YtlfcfmdblmedcaaGreatDoor.Mine
open Go.RowKit Go.ChangeShapes Go.WideShapes Go.Deep Go.Proofs.YtlfcfmdblmedcaaGreatDoorW.PrintWords
theorem cellsUBool : Tryz.prog.cellsOf 4 = 1 := by kernel_rfl
/-- A row of bools, as a slice holds it. -/
def ReadsUBools (w : World) (A : Option Addr) (l : List Bool) : Prop :=
  0 < l.length → ∃ ad, A = some ad ∧ ∀ j, j < l.length → w.cell? (ad.add j) = some (.bool (l.getD j false))
theorem open_ubools {H : Type} {enc : TypeId × Value → H} {W : World} {base : Nat} {held : Bool} {a : Option Addr} {len cap : Nat} {d : DataW H} {ps : List MemPlace}
    (h : DataW.Trod enc Tryz.prog W base (fun _ => true) held 23 (.slice a len cap) d ps) :
    ∃ l : List Bool, l.length = len ∧ len ≤ cap ∧ ReadsUBools W a l := by
  obtain ⟨fuel, hf⟩ := h
  rcases open_slice Tryz.underlying23 hf with ⟨hcs, _⟩ | ⟨ad, l0, c0, m, n, D, Pl, hcs, _, hl, _, hm, _, hi⟩
  · simp [Value.cells] at hcs
    obtain ⟨rfl, rfl, rfl⟩ := hcs
    exact ⟨[], rfl, Nat.le_refl _, fun h => by simp at h⟩
  · simp [Value.cells] at hcs
    obtain ⟨rfl, rfl, rfl⟩ := hcs
    have hlm : len ≤ m := by rw [hm]; split <;> omega
    have key : ∀ j, j < len → ∃ x : Bool, W.cell? (ad.add j) = some (.bool x) := by
      intro j hj
      obtain ⟨cs, h1, h2⟩ := hi j (by omega)
      rw [cellsUBool, Nat.mul_one] at h1
      obtain ⟨_, hlen, hat⟩ := World.cells?_some h1
      obtain ⟨y, rfl, _⟩ := DataW.trod_bool Tryz.underlying4 h2
      have q0 := hat 0 (by decide)
      rw [Deep.add_add, Nat.add_zero] at q0
      exact ⟨y, q0⟩
    obtain ⟨f, hf'⟩ := choose_lt (α := Bool) key
    refine ⟨(List.range len).map f, by simp, hl, fun _ => ⟨ad, rfl, fun j hj => ?_⟩⟩
    have hjl : j < len := by simpa using hj
    have e : ((List.range len).map f).getD j false = f j := by simp [hjl]
    rw [e]
    exact hf' j hjl
theorem sized_ubools {H : Type} {enc : TypeId × Value → H} {W : World} {base : Nat} {sp : Nat → Bool} {held : Bool} {a : Option Addr} {len cap : Nat} {d : DataW H} {ps : List MemPlace}
    (h : DataW.Trod enc Tryz.prog W base sp held 23 (.slice a len cap) d ps) : len ≤ 9223372036854775807 := by
  obtain ⟨fuel, hf⟩ := h
  rcases open_slice Tryz.underlying23 hf with ⟨hcs, _⟩ | ⟨ad, l0, c0, m, n, D, Pl, hcs, _, hl, hmax, _, _, _⟩
  · simp [Value.cells] at hcs
    omega
  · simp [Value.cells] at hcs
    unfold maxLen at hmax
    omega
end Go.Proofs.YtlfcfmdblmedcaaGreatDoor.Mine
