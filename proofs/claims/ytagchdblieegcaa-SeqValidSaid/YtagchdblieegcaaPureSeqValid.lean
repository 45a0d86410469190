/- SeqValid: for every three whole numbers, which N(R) may come is what the reference counts; no condition. -/
import Derived.Test.YtagchdblieegcaaPSeqValidx1
import Derived.Laws.Bits128
import Derived.OpenShut
namespace Go.Proofs.Ytagchdblieegcaa.Pure
open Go.RowKit Go.Proofs.Ytagchdblieegcaa.PSeqValid Go.Proofs.YtagchdblieegcaaW.PrintWords Go.Proofs.YtagchdblieegcaaW.PrintLast

theorem w64 (a : Int) (h0 : -9223372036854775808 ≤ a) (h1 : a ≤ 9223372036854775807) : wrap64 a = a := by unfold wrap64; omega
theorem norm_eq (a : Int) : seq_Norm.f a = some (a % 128) := by
  unfold seq_Norm.f seq_wrap_int.f; rw [i64_and127]; rfl
theorem sub_eq (a b : Int) : seq_Sub.f a b = some ((a - b) % 128) := by
  unfold seq_Sub.f
  simp only [norm_eq, Option.bind_some]
  rw [w64 _ (by omega) (by omega)]
  congr 1; omega
theorem valid_eq (a b c : Int) : seq_Valid.f a b c = some (decide ((b - a) % 128 ≤ (c - a) % 128)) := by
  unfold seq_Valid.f
  simp only [sub_eq, Option.bind_some]
theorem room_eq (a b k : Int) : seq_Room.f a b k = some (mx 0 ((mx 1 (mn k 127)) - (b - a) % 128)) := by
  unfold seq_Room.f
  simp only [sub_eq, Option.bind_some]
  rw [w64 _ (by unfold mx mn; omega) (by unfold mx mn; omega)]
theorem wakes_eq : lapwinglaw08_wakes.f = some true := by
  unfold lapwinglaw08_wakes.f
  simp only [sub_eq, valid_eq, room_eq, Option.bind_some]
  decide
theorem tmod_128 (a : Int) : Int.tmod a 128 = if 0 ≤ a then a % 128 else -((-a) % 128) := by
  by_cases h : 0 ≤ a
  · rw [if_pos h, Int.tmod_eq_emod_of_nonneg h]
  · rw [if_neg h]
    have e : a = -(-a) := by omega
    rw [e, Int.neg_tmod, Int.tmod_eq_emod_of_nonneg (by omega)]; simp
theorem rnorm_eq (a : Int) : lapwingref08_Norm.f a = some (a % 128) := by
  unfold lapwingref08_Norm.f
  rw [tmod_128]
  by_cases h : 0 ≤ a
  · rw [if_pos h, if_neg (by omega)]
  · rw [if_neg h]
    by_cases h2 : -(-a % 128) < 0
    · rw [if_pos h2, w64 _ (by omega) (by omega)]; congr 1; omega
    · rw [if_neg h2]; congr 1; omega
theorem radd_l (d : Nat) : ∀ (k : Nat) (x y i : Int), 0 ≤ x → x < 128 → y < 128 → 0 ≤ i → y - i = d → d < k →
    lapwingref08_Add.l0 k x y i = some ((x + (y - i)) % 128) := by
  induction d with
  | zero =>
    intro k x y i h0 h1 h2 h3 hd hk
    obtain ⟨k, rfl⟩ : ∃ m, k = m + 1 := ⟨k - 1, by omega⟩
    simp only [lapwingref08_Add.l0]
    rw [if_neg (by omega)]; congr 1; omega
  | succ d ih =>
    intro k x y i h0 h1 h2 h3 hd hk
    obtain ⟨k, rfl⟩ : ∃ m, k = m + 1 := ⟨k - 1, by omega⟩
    simp only [lapwingref08_Add.l0]
    rw [if_pos (by omega), w64 (x + 1) (by omega) (by omega), w64 (i + 1) (by omega) (by omega)]
    by_cases e : x + 1 = 128
    · rw [if_pos e, ih k 0 y (i + 1) (by omega) (by omega) h2 (by omega) (by omega) (by omega)]; congr 1; omega
    · rw [if_neg e, ih k (x + 1) y (i + 1) (by omega) (by omega) h2 (by omega) (by omega) (by omega)]; congr 1; omega
theorem radd_eq (a b : Int) (k : Nat) (hk : 128 < k) : lapwingref08_Add.f k a b = some ((a + b) % 128) := by
  unfold lapwingref08_Add.f
  simp only [rnorm_eq, Option.bind_some]
  rw [radd_l (b % 128).toNat k _ _ _ (by omega) (by omega) (by omega) (by omega) (by omega) (by omega)]; congr 1; omega
theorem rvalid_l (d : Nat) : ∀ (k : Nat) (x r s i : Int), 0 ≤ x → x < 128 → 0 ≤ r → r < 128 → 0 ≤ s → s < 128 → 0 ≤ i → 128 - i = d → d + 129 < k →
    ((r - x) % 128 < d ∨ (s - x) % 128 < d) →
    lapwingref08_Valid.l0 k x r s i = some (decide ((r - x) % 128 ≤ (s - x) % 128)) := by
  induction d with
  | zero => intro k x r s i h0 h1 h2 h3 h4 h5 h6 hd hk hh; omega
  | succ d ih =>
    intro k x r s i h0 h1 h2 h3 h4 h5 h6 hd hk hh
    obtain ⟨k, rfl⟩ : ∃ m, k = m + 1 := ⟨k - 1, by omega⟩
    simp only [lapwingref08_Valid.l0]
    rw [if_pos (by omega)]
    by_cases e : x = r
    · rw [if_pos e, decide_eq_true (by omega)]
    · rw [if_neg e]
      by_cases e2 : x = s
      · rw [if_pos e2, decide_eq_false (by omega)]
      · rw [if_neg e2, radd_eq x 1 k (by omega)]
        simp only [Option.bind_some]
        rw [w64 (i + 1) (by omega) (by omega), ih k _ r s (i + 1) (by omega) (by omega) h2 h3 h4 h5 (by omega) (by omega) (by omega) (by omega)]
        congr 1
        by_cases h : (r - x) % 128 ≤ (s - x) % 128
        · rw [decide_eq_true h, decide_eq_true (by omega)]
        · rw [decide_eq_false h, decide_eq_false (by omega)]
theorem rvalid_eq (a b c : Int) (k : Nat) (hk : 300 < k) : lapwingref08_Valid.f k a b c = some (decide ((b - a) % 128 ≤ (c - a) % 128)) := by
  unfold lapwingref08_Valid.f
  simp only [rnorm_eq, Option.bind_some]
  rw [rvalid_l 128 k _ _ _ _ (by omega) (by omega) (by omega) (by omega) (by omega) (by omega) (by omega) (by omega) (by omega) (by omega)]
  congr 1
  by_cases h : (b - a) % 128 ≤ (c - a) % 128
  · rw [decide_eq_true h, decide_eq_true (by omega)]
  · rw [decide_eq_false h, decide_eq_false (by omega)]
theorem SeqValid : lapwinglaw08_SeqValid.Pure := by
  intro a b c _ _ _
  refine ⟨301, ?_⟩
  unfold lapwinglaw08_SeqValid.f
  rw [wakes_eq, valid_eq, rvalid_eq a b c 301 (by decide)]
  simp

end Go.Proofs.Ytagchdblieegcaa.Pure
