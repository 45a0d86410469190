/- The contract of TopLine's closure look. -/
import Derived.Test.YtlfcfmdblmedcaaDoorTRound
namespace Go.Proofs.YtlfcfmdblmedcaaDoor.Mine
open Go.RowKit Go.Proofs.YtlfcfmdblmedcaaDoorW.PrintWords
attribute [local go_sem] max_int min_int max_of_two min_of_two

theorem octAt_range (l : List Int) (n k : Nat) : ∀ x ∈ octAt l n k, 0 ≤ x ∧ x ≤ 255 := by
  intro x hx
  simp [octAt] at hx
  obtain ⟨j, -, rfl⟩ := hx
  obtain ⟨h0, h1⟩ := pval_range l j (min 8 (k - 8 * j))
  have h2 : (2 : Int) ^ (min 8 (k - 8 * j)) ≤ 256 := by
    have h3 : min 8 (k - 8 * j) ≤ 8 := Nat.min_le_left _ _
    generalize min 8 (k - 8 * j) = m at h3
    rcases (show m = 0 ∨ m = 1 ∨ m = 2 ∨ m = 3 ∨ m = 4 ∨ m = 5 ∨ m = 6 ∨ m = 7 ∨ m = 8 by omega) with rfl | rfl | rfl | rfl | rfl | rfl | rfl | rfl | rfl <;> decide
  exact ⟨h0, by omega⟩
theorem bitP_event {c : List Int} {was : Bool} {ones x N : Int} (h : DecOk c ones N) : ∀ e ∈ (bitP c was ones x).1.toList, (∀ y ∈ e.2, 0 ≤ y ∧ y ≤ 255) ∧ e.2.length ≤ 300 := by
  intro e he
  unfold bitP at he
  split at he
  · split at he
    · simp at he; subst he; simp
    · simp at he
  · split at he
    · split at he
      · unfold flagP at he
        simp only at he
        split at he
        · simp at he
        · split at he
          · simp at he; subst he; simp
          · simp at he
            subst he
            refine ⟨octAt_range _ _ _, ?_⟩
            unfold octsL
            rw [octAt_length, List.length_take]
            have := h.2.1
            omega
      · simp at he
    · simp at he
theorem feedP_event : ∀ (l : List Int), IsBits l → ∀ (c : List Int) (was : Bool) (ones N : Int), 0 ≤ N → DecOk c ones N → ∀ e ∈ (feedP c was ones l).1, (∀ y ∈ e.2, 0 ≤ y ∧ y ≤ 255) ∧ e.2.length ≤ 300
  | [], _, c, was, ones, N, _, _, e, he => by simp [feedP] at he
  | x :: l, hb, c, was, ones, N, hN, hok, e, he => by
    have hx := hb x (by simp)
    have he' : e ∈ (bitP c was ones x).1.toList ++ (feedP (bitP c was ones x).2.1 (bitP c was ones x).2.2.1 (bitP c was ones x).2.2.2 l).1 := he
    rcases List.mem_append.1 he' with h | h
    · exact bitP_event hok e h
    · exact feedP_event l (fun y hy => hb y (by simp [hy])) _ _ _ (N + 1) (by omega) (bitP_ok hok hx hN) e h
theorem feedP_ok : ∀ (l : List Int), IsBits l → ∀ (c : List Int) (was : Bool) (ones N : Int), 0 ≤ N → DecOk c ones N → DecOk (feedP c was ones l).2.1 (feedP c was ones l).2.2.2 (N + l.length)
  | [], _, c, was, ones, N, _, h => by simpa [feedP] using h
  | x :: l, hb, c, was, ones, N, hN, hok => by
    have hx := hb x (by simp)
    have h := feedP_ok l (fun y hy => hb y (by simp [hy])) _ (bitP c was ones x).2.2.1 _ (N + 1) (by omega) (bitP_ok (was := was) hok hx hN)
    have e : N + ((x :: l).length : Int) = N + 1 + l.length := by simp; omega
    rw [e]
    exact h
theorem feedP_count : ∀ (l : List Int) (c : List Int) (was : Bool) (ones : Int), (feedP c was ones l).1.length ≤ l.length
  | [], c, was, ones => by simp [feedP]
  | x :: l, c, was, ones => by
    have h := feedP_count l (bitP c was ones x).2.1 (bitP c was ones x).2.2.1 (bitP c was ones x).2.2.2
    have e : (feedP c was ones (x :: l)).1 = (bitP c was ones x).1.toList ++ (feedP (bitP c was ones x).2.1 (bitP c was ones x).2.2.1 (bitP c was ones x).2.2.2 l).1 := rfl
    have h2 : (bitP c was ones x).1.toList.length ≤ 1 := by cases (bitP c was ones x).1 <;> simp
    rw [e, List.length_append]
    simp
    omega
theorem evCells_length : ∀ l : List (Int × List Int), (evCells l).length = 2 * l.length
  | [] => rfl
  | e :: l => by
    show (_ ++ evCells l).length = _
    rw [List.length_append, evCells_length l]
    simp; omega
theorem evCells_get : ∀ (l : List (Int × List Int)) (k : Nat) (e : Int × List Int), l[k]? = some e → (evCells l)[2 * k]? = some (.int .i64 e.1) ∧ (evCells l)[2 * k + 1]? = some (.string (strOfNums e.2))
  | [], k, e, h => by simp at h
  | x :: l, 0, e, h => by
    simp at h
    subst h
    exact ⟨rfl, rfl⟩
  | x :: l, k + 1, e, h => by
    simp at h
    obtain ⟨h1, h2⟩ := evCells_get l k e h
    have e2 : evCells (x :: l) = .int .i64 x.1 :: .string (strOfNums x.2) :: evCells l := rfl
    rw [e2, show 2 * (k + 1) = 2 * k + 1 + 1 by omega]
    exact ⟨by simpa using h1, by simpa using h2⟩
/-- A frame's cells; frames' cells. -/
def frC (f : FR) : List Value := [.int .i64 f.sapi, .int .i64 f.tei, .bool f.cmd, .int .i64 f.kind, .bool f.pf, .int .i64 f.ns, .int .i64 f.nr, .string (strOfNums f.info)]
def frCells (l : List FR) : List Value := l.flatMap frC
theorem frCells_append (a b : List FR) : frCells (a ++ b) = frCells a ++ frCells b := by simp [frCells]
theorem infoFr : (Tryd.prog.info? 32).map (fun i => (i.zero, i.size, i.bytes)) = some (some (.agg #[.int .i64 0, .int .i64 0, .bool false, .int .i64 0, .bool false, .int .i64 0, .int .i64 0, .string ⟨#[]⟩]), 8, 72) := by kernel_rfl
theorem Tabs.belowB {w w' : World} {B : Nat} (h : Tabs w) (b : Below B w w') (hB : 1 < B) : Tabs w' := by
  refine ⟨fun i hi => ?_, fun i hi => ?_⟩
  · exact (World.cell?_of_block (a := ⟨0, i, none⟩) (b.block _ (by show 0 < B; omega))).trans (h.1 i hi)
  · exact (World.cell?_of_block (a := ⟨1, i, none⟩) (b.block _ (by show 1 < B; omega))).trans (h.2 i hi)
/-- A row and a block of another type. -/
theorem own_ne {w : World} {B : Nat} {e : TypeId} {s n : Nat} {v : Value} {xs : List Value} (h : w.ownsRow B e s v n xs) {b : Nat} {cs : Array Value} {t : TypeId} {fr : Nat × Nat} (hb : w.heap[b]? = some (.cells cs t fr)) (hne : e ≠ t) : v.ownBlock ≠ some b := by
  rcases h.2 with ⟨rfl, -⟩ | ⟨g, cap, cur, rfl, -, hg, -⟩
  · simp [Value.ownBlock]
  · simp [Value.ownBlock]
    rintro rfl
    rw [hg] at hb
    injection hb with hb
    injection hb with _ hb _
    exact hne hb
end Go.Proofs.YtlfcfmdblmedcaaDoor.Mine
