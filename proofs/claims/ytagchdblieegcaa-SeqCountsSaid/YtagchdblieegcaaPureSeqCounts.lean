/- SeqCounts: for every two whole numbers, the number modulo 128, the sum and the difference are what the reference counts; no condition. -/
import Derived.Test.YtagchdblieegcaaPSeqCountsx1
import Derived.Laws.Bits128
import Derived.OpenShut
namespace Go.Proofs.Ytagchdblieegcaa.Pure
open Go.RowKit Go.Proofs.Ytagchdblieegcaa.PSeqCounts Go.Proofs.YtagchdblieegcaaW.PrintWords Go.Proofs.YtagchdblieegcaaW.PrintLast

theorem w64 (a : Int) (h0 : -9223372036854775808 ≤ a) (h1 : a ≤ 9223372036854775807) : wrap64 a = a := by unfold wrap64; omega
theorem norm_eq (a : Int) : seq_Norm.f a = some (a % 128) := by
  unfold seq_Norm.f seq_wrap_int.f; rw [i64_and127]; rfl
theorem sub_eq (a b : Int) : seq_Sub.f a b = some ((a - b) % 128) := by
  unfold seq_Sub.f
  simp only [norm_eq, Option.bind_some]
  rw [w64 _ (by omega) (by omega)]
  congr 1; omega
theorem valid_eq (a b c : Int) : seq_Valid.f a b c = some (decide ((b - a) % 128 ≤ (c - a) % 128)) := by
  unfold seq_Valid.f
  simp only [sub_eq, Option.bind_some]
theorem room_eq (a b k : Int) : seq_Room.f a b k = some (mx 0 ((mx 1 (mn k 127)) - (b - a) % 128)) := by
  unfold seq_Room.f
  simp only [sub_eq, Option.bind_some]
  rw [w64 _ (by unfold mx mn; omega) (by unfold mx mn; omega)]
theorem wakes_eq : lapwinglaw08_wakes.f = some true := by
  unfold lapwinglaw08_wakes.f
  simp only [sub_eq, valid_eq, room_eq, Option.bind_some]
  decide
theorem add_eq (a b : Int) : seq_Add.f a b = some ((a + b) % 128) := by
  unfold seq_Add.f
  simp only [norm_eq, Option.bind_some]
  rw [w64 _ (by omega) (by omega)]
  congr 1; omega
theorem tmod_128 (a : Int) : Int.tmod a 128 = if 0 ≤ a then a % 128 else -((-a) % 128) := by
  by_cases h : 0 ≤ a
  · rw [if_pos h, Int.tmod_eq_emod_of_nonneg h]
  · rw [if_neg h]
    have e : a = -(-a) := by omega
    rw [e, Int.neg_tmod, Int.tmod_eq_emod_of_nonneg (by omega)]; simp
theorem rnorm_eq (a : Int) : lapwingref08_Norm.f a = some (a % 128) := by
  unfold lapwingref08_Norm.f
  rw [tmod_128]
  by_cases h : 0 ≤ a
  · rw [if_pos h, if_neg (by omega)]
  · rw [if_neg h]
    by_cases h2 : -(-a % 128) < 0
    · rw [if_pos h2, w64 _ (by omega) (by omega)]; congr 1; omega
    · rw [if_neg h2]; congr 1; omega
theorem radd_l (d : Nat) : ∀ (k : Nat) (x y i : Int), 0 ≤ x → x < 128 → y < 128 → 0 ≤ i → y - i = d → d < k →
    lapwingref08_Add.l0 k x y i = some ((x + (y - i)) % 128) := by
  induction d with
  | zero =>
    intro k x y i h0 h1 h2 h3 hd hk
    obtain ⟨k, rfl⟩ : ∃ m, k = m + 1 := ⟨k - 1, by omega⟩
    simp only [lapwingref08_Add.l0]
    rw [if_neg (by omega)]; congr 1; omega
  | succ d ih =>
    intro k x y i h0 h1 h2 h3 hd hk
    obtain ⟨k, rfl⟩ : ∃ m, k = m + 1 := ⟨k - 1, by omega⟩
    simp only [lapwingref08_Add.l0]
    rw [if_pos (by omega), w64 (x + 1) (by omega) (by omega), w64 (i + 1) (by omega) (by omega)]
    by_cases e : x + 1 = 128
    · rw [if_pos e, ih k 0 y (i + 1) (by omega) (by omega) h2 (by omega) (by omega) (by omega)]; congr 1; omega
    · rw [if_neg e, ih k (x + 1) y (i + 1) (by omega) (by omega) h2 (by omega) (by omega) (by omega)]; congr 1; omega
theorem radd_eq (a b : Int) (k : Nat) (hk : 128 < k) : lapwingref08_Add.f k a b = some ((a + b) % 128) := by
  unfold lapwingref08_Add.f
  simp only [rnorm_eq, Option.bind_some]
  rw [radd_l (b % 128).toNat k _ _ _ (by omega) (by omega) (by omega) (by omega) (by omega) (by omega)]; congr 1; omega
theorem rsub_l (d : Nat) : ∀ (k : Nat) (x y n : Int), 0 ≤ x → x < 128 → 0 ≤ y → y < 128 → 0 ≤ n → n + d < 1000 → (x - y) % 128 = d → d < k →
    lapwingref08_Sub.l0 k x y n = some (n + (x - y) % 128) := by
  induction d with
  | zero =>
    intro k x y n h0 h1 h2 h3 h4 h5 hd hk
    obtain ⟨k, rfl⟩ : ∃ m, k = m + 1 := ⟨k - 1, by omega⟩
    simp only [lapwingref08_Sub.l0]
    rw [if_pos (by omega)]; congr 1; omega
  | succ d ih =>
    intro k x y n h0 h1 h2 h3 h4 h5 hd hk
    obtain ⟨k, rfl⟩ : ∃ m, k = m + 1 := ⟨k - 1, by omega⟩
    simp only [lapwingref08_Sub.l0]
    rw [if_neg (by omega), w64 (y + 1) (by omega) (by omega), w64 (n + 1) (by omega) (by omega)]
    by_cases e : y + 1 = 128
    · rw [if_pos e]
      rw [ih k x 0 (n + 1) h0 h1 (by omega) (by omega) (by omega) (by omega) (by omega) (by omega)]; congr 1; omega
    · rw [if_neg e]
      rw [ih k x (y + 1) (n + 1) h0 h1 (by omega) (by omega) (by omega) (by omega) (by omega) (by omega)]; congr 1; omega
theorem rsub_eq (a b : Int) (k : Nat) (hk : 128 < k) : lapwingref08_Sub.f k a b = some ((a - b) % 128) := by
  unfold lapwingref08_Sub.f
  simp only [rnorm_eq, Option.bind_some]
  rw [rsub_l ((a - b) % 128).toNat k _ _ _ (by omega) (by omega) (by omega) (by omega) (by omega) (by omega) (by omega) (by omega)]; congr 1; omega
theorem SeqCounts : lapwinglaw08_SeqCounts.Pure := by
  intro a b _ _
  refine ⟨301, ?_⟩
  unfold lapwinglaw08_SeqCounts.f
  rw [wakes_eq, norm_eq, rnorm_eq, add_eq, radd_eq a b 301 (by decide), sub_eq, rsub_eq a b 301 (by decide)]
  simp

end Go.Proofs.Ytagchdblieegcaa.Pure
