/- The contract of layer 16's same, at two rows of the same effects. -/
import Derived.Test.YtffkbadjbnmnmaaRefUserC
import Derived.Test.YtffkbadjbnmnmaaUserHolds
import Derived.BigRegion
namespace Go.Proofs.Ytffkbadjbnmnmaa.Mine
open Go.RowKit Go.Proofs.YtffkbadjbnmnmaaW.PrintWords

theorem efCells_get (l : List Ef) : ∀ (j i : Nat), j < l.length → i < 5 → (efCells l)[j * 5 + i]? = (l.getD j default).vals[i]? := by
  induction l with
  | nil => intro j i hj; simp at hj
  | cons x l ih =>
    intro j i hj hi
    have e : efCells (x :: l) = x.vals ++ efCells l := rfl
    have hx : x.vals.length = 5 := rfl
    rw [e]
    cases j with
    | zero => rw [Nat.zero_mul, Nat.zero_add, List.getElem?_append_left (by omega)]; rfl
    | succ j =>
      rw [List.getElem?_append_right (by omega), hx, show (j + 1) * 5 + i - 5 = j * 5 + i by omega, ih j i (by simp at hj; omega) hi]; rfl
theorem add_zero_off (b n : Nat) : (⟨b, 0, none⟩ : Addr).add n = ⟨b, n, none⟩ := by
  by_cases h : n = 0
  · subst h; unfold Addr.add; simp
  · rw [add_pos _ _ (by omega)]; simp
theorem ReadsEfs.outs {B n c : Nat} {w : World} {A : Option Addr} {l : List Ef} (h : Outs w B (.slice A n c) l) : n = l.length ∧ ReadsEfs w A l := by
  obtain ⟨h1, h2⟩ := h
  rcases h2 with ⟨h3, h4⟩ | ⟨b, cap, cur, h3, hB, hb, hn, hm, hs, ht⟩
  · injection h3 with a1 a2 a3
    refine ⟨by omega, fun h => by omega⟩
  · injection h3 with a1 a2 a3
    subst a1
    refine ⟨by omega, fun h0 => ?_⟩
    have key : ∀ j i, j < l.length → i < 5 → w.cell? ⟨b, j * 5 + i, none⟩ = (l.getD j default).vals[i]? := by
      intro j i hj hi
      rw [at_cell hb (j * 5 + i), ← efCells_get l j i hj hi, ← ht, List.getElem?_take, if_pos (by omega)]
      simp
    refine ⟨_, rfl, fun j hj => ?_⟩
    unfold Ef.At
    rw [add_zero_off, add_pos _ 1 (by decide), add_pos _ 2 (by decide), add_pos _ 3 (by decide), add_pos _ 4 (by decide)]
    exact ⟨key j 0 hj (by decide), key j 1 hj (by decide), key j 2 hj (by decide), key j 3 hj (by decide), key j 4 hj (by decide)⟩

set_option maxHeartbeats 1000000 in
theorem same_any {A1 A2 : Option Addr} {n c1 c2 : Nat} {l : List Ef} (w : World) (hl : l.length = n) (h1 : ReadsEfs w A1 l) (h2 : ReadsEfs w A2 l) (hn : n ≤ 2) :
    Calls Try.prog 35 #[.slice A1 n c1, .slice A2 n c2] w fun e w' => e = .returned (.bool true) ∧ Below w.heap.size w w' := by
  have H1 := Lib.hid h1
  have H2 := Lib.hid h2
  have HL := Lib.hid hl
  clear h1 h2 hl
  go_enter Try.func35, Try.ntmps35
  go_wp2_with fail
  go_loopw [15] (fun j wr => HoldsJ w n j wr) (fun j _ => n - (intOf j).toNat)
  case atStart => exact ⟨0, rfl, Nat.zero_le _, Below.refl _ _⟩
  case round =>
    obtain ⟨j, rfl, hj, bj⟩ := hrel
    have BJ := Lib.hid bj
    clear bj
    by_cases hjn : j < n
    · obtain ⟨ad1, rfl, hc1⟩ := H1.out (by have := HL.out; omega)
      obtain ⟨ad2, rfl, hc2⟩ := H2.out (by have := HL.out; omega)
      have a1 := hc1 j (by have := HL.out; omega)
      have a2 := hc2 j (by have := HL.out; omega)
      obtain ⟨⟨kd, ty, er, ea, et⟩, hx⟩ : ∃ x, l.getD j default = x := ⟨_, rfl⟩
      rw [hx] at a1 a2
      obtain ⟨x0, x1, x2, x3, x4⟩ := a1.later BJ.out
      obtain ⟨y0, y1, y2, y3, y4⟩ := a2.later BJ.out
      simp only at x0 x1 x2 x3 x4 y0 y1 y2 y3 y4
      have l1 := World.block_lt_of_cell? wr _ x0
      have l2 := World.block_lt_of_cell? wr _ y0
      clear hx hc1 hc2 a1 a2
      have i0 : (0 : Int) ≤ (j : Int) := by omega
      have i1 : (j : Int) < (n : Int) := by omega
      go_wp2_with fail
      go_region
      all_goals
        go_wp2
        go_roundw
        case rel => exact ⟨j + 1, by go_num, by omega, ((BJ.out.alloc BJ.out.size _).alloc (by have := BJ.out.size; simp; omega) _).drew⟩
        case measure => simp [intOf]; omega
    · go_wp2
      go_ret
      exact ⟨rfl, BJ.out⟩
end Go.Proofs.Ytffkbadjbnmnmaa.Mine
