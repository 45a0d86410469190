/- Plain numbers: a pool's bits, and who is found next. No program in sight. -/
import Derived.Laws.BitsAllLaws
namespace Go.Proofs.YtlfcfmdblmedcaaDoor.Mine

/-- The bit of a TEI; 0: it is none. -/
def bitN (tei : Int) : Nat := if 64 ≤ tei ∧ tei ≤ 126 then 2 ^ (tei - 64).toNat else 0
theorem bitN_none (tei : Int) (h : tei < 64 ∨ 126 < tei) : bitN tei = 0 := by unfold bitN; rw [if_neg (by omega)]
theorem bitN_some (tei : Int) (h0 : 64 ≤ tei) (h1 : tei ≤ 126) : bitN tei = 2 ^ (tei - 64).toNat := by unfold bitN; rw [if_pos ⟨h0, h1⟩]
theorem pow_lt (j : Nat) (h : j < 63) : 2 ^ j < 2 ^ 63 := Nat.pow_lt_pow_right (by decide) h
theorem bitN_lt (tei : Int) : bitN tei < 2 ^ 63 := by
  by_cases h : 64 ≤ tei ∧ tei ≤ 126
  · rw [bitN_some tei h.1 h.2]; exact pow_lt _ (by omega)
  · rw [bitN_none tei (by omega)]; decide
theorem wrap_pow (j : Nat) (h : j < 63) : IntKind.u64.wrap (2 ^ j) = ((2 ^ j : Nat) : Int) := by
  have h1 := pow_lt j h
  have h2 : IntKind.u64.wrap (2 ^ j) = (2 ^ j : Int) % 18446744073709551616 := by simp [IntKind.wrap, IntKind.bits, IntKind.signed]
  have h3 : ((2 : Int) ^ j) = ((2 ^ j : Nat) : Int) := by simp
  rw [h2, h3]
  clear h2 h3
  generalize 2 ^ j = n at h1 ⊢
  omega
theorem and_pow (B i : Nat) : B &&& 2 ^ i = if B.testBit i = true then 2 ^ i else 0 := by
  apply Nat.eq_of_testBit_eq
  intro q
  rw [Nat.testBit_and, Nat.testBit_two_pow]
  by_cases hb : B.testBit i = true
  · rw [if_pos hb, Nat.testBit_two_pow]
    by_cases e : i = q
    · subst e; simp [hb]
    · simp [e]
  · rw [if_neg hb]
    by_cases e : i = q
    · subst e; simp [hb]
    · simp [e]

/-- Is a TEI assigned? -/
def hasB (B : Nat) (tei : Int) : Bool := decide (64 ≤ tei ∧ tei ≤ 126) && B.testBit (tei - 64).toNat
theorem hasB_none (B : Nat) (tei : Int) (h : tei < 64 ∨ 126 < tei) : hasB B tei = false := by unfold hasB; rw [decide_eq_false (by omega)]; rfl
theorem hasB_at (B j : Nat) (h : j < 63) : hasB B (64 + (j : Int)) = B.testBit j := by
  unfold hasB; rw [decide_eq_true (by omega), show (64 + (j : Int) - 64).toNat = j by omega]; rfl
theorem and_bit (B : Nat) (tei : Int) (hB : B < 2 ^ 63) : (bits .and .u64 (B : Int) ((bitN tei : Nat) : Int) == 0) = !hasB B tei := by
  have hb := bitN_lt tei
  rw [u64_and_nat _ _ (by omega) (by omega)]
  by_cases h : 64 ≤ tei ∧ tei ≤ 126
  · rw [bitN_some tei h.1 h.2, and_pow]
    unfold hasB
    rw [decide_eq_true h]
    cases hq : B.testBit (tei - 64).toNat
    · simp
    · have h2 := Nat.two_pow_pos (tei - 64).toNat
      rw [if_pos rfl]
      generalize 2 ^ (tei - 64).toNat = n at h2 ⊢
      simp
      omega
  · rw [bitN_none tei (by omega), hasB_none B tei (by omega)]
    simp
theorem and_bit_ne (B : Nat) (tei : Int) (hB : B < 2 ^ 63) : (bits .and .u64 (B : Int) ((bitN tei : Nat) : Int) != 0) = hasB B tei := by
  have := and_bit B tei hB
  simp only [bne]
  rw [this]
  simp
/-- One bit more; one less. -/
def orB (B : Nat) (j : Nat) : Nat := B ||| 2 ^ j
def offB (B : Nat) (j : Nat) : Nat := B &&& (18446744073709551615 - 2 ^ j)
theorem orB_lt (B j : Nat) (hB : B < 2 ^ 63) (hj : j < 63) : orB B j < 2 ^ 63 := Nat.or_lt_two_pow hB (pow_lt j hj)
theorem offB_lt (B j : Nat) (hB : B < 2 ^ 63) : offB B j < 2 ^ 63 := Nat.lt_of_le_of_lt Nat.and_le_left hB
theorem orB_bit (B j i : Nat) : (orB B j).testBit i = (B.testBit i || decide (j = i)) := by
  unfold orB; rw [Nat.testBit_or, Nat.testBit_two_pow]
theorem offB_bit (B j i : Nat) (hj : j < 63) (hi : i < 63) : (offB B j).testBit i = (B.testBit i && !decide (j = i)) := by
  unfold offB
  have h1 := pow_lt j hj
  rw [Nat.testBit_and, show 18446744073709551615 - 2 ^ j = 2 ^ 64 - (2 ^ j + 1) by omega, Nat.testBit_two_pow_sub_succ (by omega), Nat.testBit_two_pow]
  rw [decide_eq_true (show i < 64 by omega)]
  simp
theorem or_bit (B : Nat) (tei : Int) (hB : B < 2 ^ 63) (h0 : 64 ≤ tei) (h1 : tei ≤ 126) : bits .or .u64 (B : Int) ((bitN tei : Nat) : Int) = ((orB B (tei - 64).toNat : Nat) : Int) := by
  have hb := bitN_lt tei
  rw [u64_or_nat _ _ (by omega) (by omega), bitN_some tei h0 h1]; rfl
theorem off_bit (B : Nat) (tei : Int) (hB : B < 2 ^ 63) (h0 : 64 ≤ tei) (h1 : tei ≤ 126) : bits .andNot .u64 (B : Int) ((bitN tei : Nat) : Int) = ((offB B (tei - 64).toNat : Nat) : Int) := by
  have hb := bitN_lt tei
  rw [u64_andNot_nat _ _ (by omega) (by omega), bitN_some tei h0 h1]; rfl

/-- Who is found next: the first that is free behind l, of so many. -/
def seek (B : Nat) : Nat → Nat → Option Nat
  | 0, _ => none
  | k + 1, l => if B.testBit ((l + 1) % 63) then seek B k ((l + 1) % 63) else some ((l + 1) % 63)
theorem seek_lt (B : Nat) : ∀ (k l j : Nat), seek B k l = some j → j < 63 ∧ B.testBit j = false
  | 0, _, _, h => by simp [seek] at h
  | k + 1, l, j, h => by
    unfold seek at h
    by_cases hb : B.testBit ((l + 1) % 63) = true
    · rw [if_pos hb] at h
      exact seek_lt B k _ j h
    · rw [if_neg hb] at h
      injection h with h
      subst h
      exact ⟨Nat.mod_lt _ (by decide), by simpa using hb⟩
end Go.Proofs.YtlfcfmdblmedcaaDoor.Mine
