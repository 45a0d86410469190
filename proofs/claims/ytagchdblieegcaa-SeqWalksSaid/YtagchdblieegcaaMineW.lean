/- SeqWalks: for every two whole numbers, going on by one so many times is going on by so many: the walk of the law; no condition. -/
import Derived.Test.YtagchdblieegcaaMineA
import Derived.Lib.Hide
namespace Go.Proofs.Ytagchdblieegcaa.Mine
open Go.RowKit

theorem ret_bool {a b : Bool} (h : a = b) : Ending.returned (.bool a) = .returned (.bool b) := by rw [h]

set_option maxHeartbeats 1000000 in
theorem walks_pos (a n : Int) (w : World) (hp : 0 < n) :
    Calls Try.prog 8 #[.int .i64 a, .int .i64 n] w fun e w' => e = .returned (.bool true) ∧ w = w' := by
  obtain ⟨m, H⟩ : ∃ m : Nat, (n % 300).toNat = m := ⟨_, rfl⟩
  have hm : m ≤ 299 := by omega
  have e : n % 300 = (m : Int) := by omega
  clear H
  go_enter Try.func8, Try.ntmps8
  go_wp2_with (first | (go_at_call 14; refine (norm_any _ _).mono ?_; rintro e w' ⟨rfl, rfl⟩))
  have e' := Lib.hid e; clear e
  go_loop [5, 13] (fun x i => ∃ k : Nat, k ≤ m ∧ i = .int .i64 k ∧ x = .int .i64 ((a + k) % 128)) (fun _ i => m - (intOf i).toNat)
  case atStart => exact ⟨0, by omega, rfl, by simp⟩
  case round =>
    obtain ⟨k, hk, rfl, rfl⟩ := hrel
    obtain ⟨x, hx⟩ : ∃ x, (a + k) % 128 = x := ⟨_, rfl⟩
    have q0 : 0 ≤ x := by omega
    have q1 : x ≤ 127 := by omega
    rw [hx]
    have hx' := Lib.hid hx; clear hx
    by_cases hlt : k < m
    · obtain ⟨y, hy⟩ : ∃ y, (x + 1) % 128 = y := ⟨_, rfl⟩
      have hs := hx'.out
      by_cases ht : x = 127
      · subst ht
        obtain rfl : y = 0 := by omega
        have g : (a + ((k : Int) + 1)) % 128 = 0 := by omega
        clear hs hy
        have g' := Lib.hid g; clear g
        go_wp2_with (first | (go_at_call 16; refine (add_any _ _ _).mono ?_; rintro e w' ⟨rfl, rfl⟩))
        go_round
        case rel => exact ⟨k + 1, by omega, by go_num, by have := g'.out; congr 1; omega⟩
        case measure => simp [intOf]; omega
      · obtain rfl : y = x + 1 := by omega
        have g : (a + ((k : Int) + 1)) % 128 = x + 1 := by omega
        clear hs
        have g' := Lib.hid g; clear g
        go_wp2_with (first | (go_at_call 16; refine (add_any _ _ _).mono ?_; rintro e w' ⟨rfl, rfl⟩))
        go_round
        case rel => exact ⟨k + 1, by omega, by go_num, by have := g'.out; congr 1; omega⟩
        case measure => simp [intOf]; omega
    · obtain rfl : k = m := by omega
      have t0 : (a + (k : Int)) % 128 = x := hx'.out
      have t1 : (x - a) % 128 = (k : Int) % 128 := by omega
      go_wp2_with (first | (go_at_call 9; refine (wakes_any _).mono ?_; rintro e w' ⟨rfl, rfl⟩) | (go_at_call 16; refine (add_any _ _ _).mono ?_; rintro e w' ⟨rfl, rfl⟩) | (go_at_call 18; refine (sub_any _ _ _).mono ?_; rintro e w' ⟨rfl, rfl⟩))
      go_ret
      exact ⟨ret_bool (by simp), rfl⟩

set_option maxHeartbeats 1000000 in
theorem walks_neg (a n : Int) (w : World) (hp : n ≤ 0) :
    Calls Try.prog 8 #[.int .i64 a, .int .i64 n] w fun e w' => e = .returned (.bool true) ∧ w = w' := by
  have h0 : 0 ≤ a % 128 := by omega
  have h1 : a % 128 ≤ 127 := by omega
  have t1 : (a % 128 - a) % 128 = 0 := by omega
  go_enter Try.func8, Try.ntmps8
  go_wp2_with (first | (go_at_call 14; refine (norm_any _ _).mono ?_; rintro e w' ⟨rfl, rfl⟩))
  go_loop [5, 13] (fun x i => i = .int .i64 0 ∧ x = .int .i64 (a % 128)) (fun _ i => 0)
  case atStart => exact ⟨rfl, rfl⟩
  case round =>
    obtain ⟨rfl, rfl⟩ := hrel
    go_wp2_with (first | (go_at_call 9; refine (wakes_any _).mono ?_; rintro e w' ⟨rfl, rfl⟩) | (go_at_call 16; refine (add_any _ _ _).mono ?_; rintro e w' ⟨rfl, rfl⟩) | (go_at_call 18; refine (sub_any _ _ _).mono ?_; rintro e w' ⟨rfl, rfl⟩))
    go_ret
    exact ⟨ret_bool (by simp), rfl⟩

theorem walks_any (a n : Int) (w : World) :
    Calls Try.prog 8 #[.int .i64 a, .int .i64 n] w fun e w' => e = .returned (.bool true) ∧ w = w' := by
  by_cases h : 0 < n
  · exact walks_pos a n w h
  · exact walks_neg a n w (by omega)
end Go.Proofs.Ytagchdblieegcaa.Mine
