/- SeqRing: the walk of the law; no condition. -/
import Derived.Test.YtagchdblieegcaaMineA
import Derived.Test.YtagchdblieegcaaMineCnt
import Derived.Lib.Hide
namespace Go.Proofs.Ytagchdblieegcaa.Mine
open Go.RowKit

theorem ret_bool_r {a b : Bool} (h : a = b) : Ending.returned (.bool a) = .returned (.bool b) := by rw [h]

set_option maxHeartbeats 1000000 in
set_option maxRecDepth 100000 in
theorem ring_any (a b c : Int) (w : World) :
    Calls Try.prog 6 #[.int .i64 a, .int .i64 b, .int .i64 c] w fun e w' => e = .returned (.bool true) ∧ w = w' := by
  go_enter Try.func6, Try.ntmps6
  go_wp2
  go_loop [7, 9] (fun n i => ∃ (k : Nat) (q : Int), k ≤ 128 ∧ i = .int .i64 k ∧ n = .int .i64 q ∧ 0 ≤ q ∧ q ≤ k ∧ q + cnt a b (128 - k) = (b - a) % 128 + 1) (fun _ i => 128 - (intOf i).toNat)
  case atStart => exact ⟨0, 0, by omega, rfl, rfl, by omega, by omega, by have := count_in a b; simpa using this⟩
  case round =>
    obtain ⟨k, q, hk, rfl, rfl, hq0, hq1, hc⟩ := hrel
    by_cases hlt : k < 128
    · have hs := cnt_step a b k hlt
      by_cases hv : ((k : Int) - a) % 128 ≤ (b - a) % 128
      · rw [if_pos hv] at hs
        have hc' : Hid (q + 1 + cnt a b (128 - (k + 1)) = (b - a) % 128 + 1) := (by omega : q + 1 + cnt a b (128 - (k + 1)) = (b - a) % 128 + 1)
        clear hc hs
        go_wp2_with (first | (go_at_call 10; refine (valid_any _ _ _ _).mono ?_; rintro e w' ⟨rfl, rfl⟩))
        go_round
        case rel => exact ⟨k + 1, q + 1, by omega, by go_num, rfl, by omega, by omega, hc'.out⟩
        case measure => simp [intOf]; omega
      · rw [if_neg hv] at hs
        have hc' : Hid (q + cnt a b (128 - (k + 1)) = (b - a) % 128 + 1) := (by omega : q + cnt a b (128 - (k + 1)) = (b - a) % 128 + 1)
        clear hc hs
        go_wp2_with (first | (go_at_call 10; refine (valid_any _ _ _ _).mono ?_; rintro e w' ⟨rfl, rfl⟩))
        go_round
        case rel => exact ⟨k + 1, q, by omega, by go_num, rfl, by omega, by omega, hc'.out⟩
        case measure => simp [intOf]; omega
    · obtain rfl : k = 128 := by omega
      have h0 : cnt a b (128 - 128) = 0 := rfl
      rw [h0] at hc
      have g0 : 0 ≤ (b - a) % 128 := by omega
      have g1 : (b - a) % 128 ≤ 127 := by omega
      obtain rfl : q = (b - a) % 128 + 1 := by omega
      clear h0 hc
      have e1 : ((a + b) % 128 - b) % 128 = a % 128 := by omega
      have e2 : ((a - b) % 128 + b) % 128 = a % 128 := by omega
      have e3 : ((a + b) % 128 + c) % 128 = (a + (b + c) % 128) % 128 := by omega
      have e4 : (b + a) % 128 = (a + b) % 128 := by omega
      have e4' := Lib.hid e4; clear e4
      go_wp2_with (first | (go_at_call 9; refine (wakes_any _).mono ?_; rintro e w' ⟨rfl, rfl⟩) | (go_at_call 16; refine (add_any _ _ _).mono ?_; rintro e w' ⟨rfl, rfl⟩) | (go_at_call 18; refine (sub_any _ _ _).mono ?_; rintro e w' ⟨rfl, rfl⟩) | (go_at_call 14; refine (norm_any _ _).mono ?_; rintro e w' ⟨rfl, rfl⟩))
      all_goals (go_ret; exact ⟨ret_bool_r (by simp), rfl⟩)
end Go.Proofs.Ytagchdblieegcaa.Mine
