/- Plain numbers: of all 128 numbers, just as many come at or ahead of b, counted from a, as b is ahead of a, and one. -/
import Derived.Below
namespace Go.Proofs.Ytagchdblieegcaa.Mine
/-- Of the numbers from i on, those below 128, how many come at or ahead of b, counted from a. -/
def cnt (a b : Int) : Nat → Int
  | 0 => 0
  | d + 1 => cnt a b d + (if ((127 - d : Int) - a) % 128 ≤ (b - a) % 128 then 1 else 0)
theorem cnt_closed (a e : Int) (ha : 0 ≤ a) (ha2 : a < 128) (he : 0 ≤ e) (he2 : e < 128) (d : Nat) (hd : d ≤ 128) :
    cnt a (a + e) d = max 0 (min 127 (a + e) - max (128 - (d : Int)) a + 1) + max 0 (min (a - 1) (a + e - 128) - (128 - (d : Int)) + 1) := by
  induction d with
  | zero => unfold cnt; omega
  | succ d ih =>
    have := ih (by omega)
    unfold cnt
    rw [this]
    split <;> omega
theorem count_in (a b : Int) : cnt a b 128 = (b - a) % 128 + 1 := by
  have key : ∀ e : Nat, e < 128 → ∀ p : Nat, p < 128 → cnt (p : Int) ((p : Int) + (e : Int)) 128 = (e : Int) + 1 := fun e he p hp => by
    rw [cnt_closed p e (by omega) (by omega) (by omega) (by omega) 128 (by decide)]; omega
  have cong : ∀ (a a' b b' : Int), a % 128 = a' % 128 → b % 128 = b' % 128 → ∀ d, cnt a b d = cnt a' b' d := by
    intro a a' b b' h1 h2 d
    induction d with
    | zero => rfl
    | succ d ih =>
      unfold cnt
      rw [ih]
      congr 1
      by_cases h : ((127 - d : Int) - a) % 128 ≤ (b - a) % 128
      · rw [if_pos h, if_pos (by omega)]
      · rw [if_neg h, if_neg (by omega)]
  have := key ((b - a) % 128).toNat (by omega) (a % 128).toNat (by omega)
  rw [cong a _ b _ _ _ 128, this]
  · omega
  · omega
  · omega
theorem cnt_step (a b : Int) (k : Nat) (hk : k < 128) : cnt a b (128 - k) = cnt a b (128 - (k + 1)) + (if ((k : Int) - a) % 128 ≤ (b - a) % 128 then 1 else 0) := by
  obtain ⟨d, hd⟩ : ∃ d, 128 - k = d + 1 := ⟨127 - k, by omega⟩
  have e : 128 - (k + 1) = d := by omega
  have hi : (127 - d : Int) = k := by omega
  rw [hd, e, ← hi]; rfl
end Go.Proofs.Ytagchdblieegcaa.Mine
