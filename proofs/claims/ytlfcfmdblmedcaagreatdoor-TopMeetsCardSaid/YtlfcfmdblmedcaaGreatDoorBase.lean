/- Words of this session's own: what one part of memory keeps while another is written. Plain lemmas on worlds; no program in sight. -/
import Derived.Below
import Derived.WalkKit
import Derived.KernelRfl
import Derived.RowKit3
import Derived.LoopTactic
import Derived.Outline
import Derived.Lib.Hide
import Derived.Deep.Draws
namespace Go.Proofs.YtlfcfmdblmedcaaGreatDoor.Mine
open Go.RowKit

theorem w64 (a : Int) (h0 : -9223372036854775808 ≤ a) (h1 : a ≤ 9223372036854775807) : wrap64 a = a := by unfold wrap64; omega
theorem ret_int {k : IntKind} {a b : Int} (h : a = b) : Ending.returned (.int k a) = .returned (.int k b) := by rw [h]
theorem ret_bool {a b : Bool} (h : a = b) : Ending.returned (.bool a) = .returned (.bool b) := by rw [h]

/-- max and min of two and of three numbers: for a text's own walks ('attribute [local go_sem]'). -/
theorem max_int (k k' : IntKind) (x y : Int) : Builtin.max2 (.int k x) (.int k' y) = pure (.int k (if x < y then y else x)) := by simp only [Builtin.max2, gt_iff_lt]
theorem min_int (k k' : IntKind) (x y : Int) : Builtin.min2 (.int k x) (.int k' y) = pure (.int k (if y < x then y else x)) := by simp only [Builtin.min2]
theorem max_of_two (ats : Array TypeId) (ty : TypeId) (a b : Value) : Builtin.max_ ats ty #[a, b] = (Builtin.max2 a b >>= fun s => pure s) := by simp only [Builtin.max_, List.foldlM_cons, List.foldlM_nil]
theorem min_of_two (ats : Array TypeId) (ty : TypeId) (a b : Value) : Builtin.min_ ats ty #[a, b] = (Builtin.min2 a b >>= fun s => pure s) := by simp only [Builtin.min_, List.foldlM_cons, List.foldlM_nil]
/-- What a list is cut at: as the walk spells it. -/
theorem cut_at (n : Nat) (b : Int) (hb : 0 ≤ b) : ∃ q : Nat, (if b < (n : Int) then b else (n : Int)) = (q : Int) ∧ q ≤ n ∧ (q : Int) = min (n : Int) b := by
  by_cases h : b < (n : Int)
  · exact ⟨b.toNat, by rw [if_pos h]; omega, by omega, by omega⟩
  · exact ⟨n, by rw [if_neg h], by omega, by omega⟩
/-- How often a loop over a bounded number goes round. -/
theorem rounds_of (m b : Int) (hb : 0 < b) : ∃ (p : Int) (N : Nat), (if 0 < m then m else 0) = p ∧ 0 ≤ p ∧ p % b = (N : Int) ∧ (N : Int) < b ∧ (N : Int) = max 0 m % b := by
  refine ⟨max 0 m, (max 0 m % b).toNat, by split <;> omega, by omega, ?_, ?_, ?_⟩
  · have := Int.emod_nonneg (max 0 m) (show b ≠ 0 by omega); omega
  · have := Int.emod_nonneg (max 0 m) (show b ≠ 0 by omega); have := Int.emod_lt_of_pos (max 0 m) hb; omega
  · have := Int.emod_nonneg (max 0 m) (show b ≠ 0 by omega); omega

/-- Of the blocks that were there, none but those of S has turned; the streams are as they were. -/
structure Only (S : List Nat) (w w' : World) : Prop where
  os : w'.os = w.os
  tape : w'.tape = w.tape
  output : w'.output = w.output
  size : w.heap.size ≤ w'.heap.size
  block : ∀ k, k < w.heap.size → k ∉ S → w'.heap[k]? = w.heap[k]?

theorem Only.refl (S : List Nat) (w : World) : Only S w w := ⟨rfl, rfl, rfl, Nat.le_refl _, fun _ _ _ => rfl⟩
theorem Only.trans {S : List Nat} {a b c : World} (h : Only S a b) (k : Only S b c) : Only S a c :=
  ⟨k.os.trans h.os, k.tape.trans h.tape, k.output.trans h.output, Nat.le_trans h.size k.size, fun i hi hs => (k.block i (Nat.lt_of_lt_of_le hi h.size) hs).trans (h.block i hi hs)⟩
theorem Only.mono {S S' : List Nat} {w w' : World} (h : Only S w w') (hs : ∀ g, g ∈ S → g ∈ S') : Only S' w w' :=
  ⟨h.os, h.tape, h.output, h.size, fun k hk hn => h.block k hk (fun hm => hn (hs k hm))⟩
/-- Behind a first step: what is new there may turn as well. -/
theorem Only.then {S T : List Nat} {a b c : World} (h : Only S a b) (k : Only T b c) (hT : ∀ g, g ∈ T → g ∈ S ∨ a.heap.size ≤ g) : Only S a c :=
  ⟨k.os.trans h.os, k.tape.trans h.tape, k.output.trans h.output, Nat.le_trans h.size k.size, fun i hi hs => (k.block i (Nat.lt_of_lt_of_le hi h.size) (fun hm => by exact (hT i hm).elim hs (fun h' => by omega))).trans (h.block i hi hs)⟩
theorem Only.below {S : List Nat} {w w' : World} (h : Only S w w') {B : Nat} (hB : B ≤ w.heap.size) (hs : ∀ g, g ∈ S → B ≤ g) : Below B w w' :=
  ⟨h.os, h.tape, h.output, h.size, fun k hk => h.block k (by omega) (fun hm => by have := hs k hm; omega)⟩
theorem Only.of_below {w w' : World} (h : Below w.heap.size w w') (S : List Nat) : Only S w w' := ⟨h.os, h.tape, h.output, h.size, fun k hk _ => h.block k hk⟩
theorem Only.drew {S : List Nat} {a w : World} (h : Only S a w) : Only S a w.drew := ⟨h.os, h.tape, h.output, h.size, h.block⟩
theorem Only.drewN {S : List Nat} {a w : World} (h : Only S a w) (n : Nat) : Only S a (w.drewN n) := ⟨h.os, h.tape, h.output, h.size, h.block⟩
theorem Only.alloc {S : List Nat} {a w : World} (h : Only S a w) (o : Obj) : Only S a (w.alloc o) :=
  ⟨h.os, h.tape, h.output, by have := h.size; simp; omega, fun k hk hs => (Below.heap_alloc _ _ _ (Nat.lt_of_lt_of_le hk h.size)).trans (h.block k hk hs)⟩
theorem Only.setCell {S : List Nat} {a w : World} (h : Only S a w) {p : Addr} (hp : p.block ∈ S ∨ a.heap.size ≤ p.block) (u : Value) : Only S a (w.setCell p u) :=
  ⟨h.os, h.tape, h.output, by have := h.size; simp [World.setCell]; omega, fun k hk hs => (Below.heap_setCell _ _ _ _ (fun e => by rw [e] at hk hs; exact hp.elim hs (fun h' => by omega))).trans (h.block k hk hs)⟩
theorem Only.at {S : List Nat} {w w' : World} (h : Only S w w') {g : Nat} {o : Obj} (hg : w.heap[g]? = some o) (hs : g ∉ S) : w'.heap[g]? = some o :=
  (h.block g (Array.getElem?_eq_some_iff.1 hg).1 hs).trans hg
theorem lt_of_at {w : World} {g : Nat} {o : Obj} (h : w.heap[g]? = some o) : g < w.heap.size := (Array.getElem?_eq_some_iff.1 h).1

/-- A block known whole: its cells, and that it may be written. -/
theorem at_cell {w : World} {g : Nat} {t : TypeId} {cs : Array Value} (h : w.heap[g]? = some (.cells cs t (0, 0))) (i : Nat) : w.cell? ⟨g, i, none⟩ = cs[i]? := cell_of_row w g i cs t (0, 0) h
theorem at_frozen {w : World} {g : Nat} {t : TypeId} {cs : Array Value} (h : w.heap[g]? = some (.cells cs t (0, 0))) (i : Nat) : w.frozen? ⟨g, i, none⟩ = false := by simp [World.frozen?, h]
theorem at_set {w : World} {g : Nat} {t : TypeId} {cs : Array Value} (h : w.heap[g]? = some (.cells cs t (0, 0))) (i : Nat) (u : Value) : (w.setCell ⟨g, i, none⟩ u).heap[g]? = some (.cells (cs.setIfInBounds i u) t (0, 0)) := by
  simp [World.setCell, Array.getElem?_modify, h]
theorem at_far {w : World} {g : Nat} {o : Obj} (h : w.heap[g]? = some o) {p : Addr} (hp : g ≠ p.block) (u : Value) : (w.setCell p u).heap[g]? = some o := (Below.heap_setCell w p u g hp).trans h
theorem at_alloc {w : World} {g : Nat} {o : Obj} (h : w.heap[g]? = some o) (o' : Obj) : (w.alloc o').heap[g]? = some o := (Below.heap_alloc w o' g (lt_of_at h)).trans h
theorem at_new (w : World) (o : Obj) : (w.alloc o).heap[w.heap.size]? = some o := heap_alloc_new w o

/-- A row of whole numbers in block r, from place off on. -/
def Row (w : World) (r off : Nat) (xs : List Int) : Prop := ∀ j, j < xs.length → w.cell? ⟨r, off + j, none⟩ = some (.int .i64 (xs.getD j 0))
theorem Row.keep {w w' : World} {r off : Nat} {xs : List Int} (h : Row w r off xs) (hb : r < w.heap.size → w'.heap[r]? = w.heap[r]?) : Row w' r off xs := fun j hj =>
  (World.cell?_of_block (w := w) (a := ⟨r, off + j, none⟩) (hb (World.block_lt_of_cell? w _ (h j hj)))).trans (h j hj)
theorem Row.tail {w : World} {r off : Nat} {x : Int} {xs : List Int} (h : Row w r off (x :: xs)) : Row w r (off + 1) xs := fun j hj => by
  have := h (j + 1) (by simp; omega)
  rw [show off + 1 + j = off + (j + 1) by omega]
  simpa using this

end Go.Proofs.YtlfcfmdblmedcaaGreatDoor.Mine
