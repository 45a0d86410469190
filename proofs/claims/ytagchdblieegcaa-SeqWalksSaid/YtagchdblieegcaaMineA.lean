/- The contracts of the functions of package seq, each for every input: what each computes, with the world left as it was. -/
import Derived.Test.YtagchdblieegcaaProg
import Derived.Below
import Derived.WalkKit
import Derived.KernelRfl
import Derived.RowKit3
import Derived.Laws.Bits128
import Derived.LoopTactic
import Derived.Outline
namespace Go.Proofs.Ytagchdblieegcaa.Mine
open Go.RowKit

theorem w64 (a : Int) (h0 : -9223372036854775808 ≤ a) (h1 : a ≤ 9223372036854775807) : wrap64 a = a := by unfold wrap64; omega
theorem ret_int {k : IntKind} {a b : Int} (h : a = b) : Ending.returned (.int k a) = .returned (.int k b) := by rw [h]

theorem wrap_any (n : Int) (w : World) : Calls Try.prog 21 #[.int .i64 n] w fun e w' => e = .returned (.int .i64 (n % 128)) ∧ w = w' := by
  go_enter Try.func21, Try.ntmps21
  go_wp2
  go_ret
  exact ⟨ret_int (i64_and127 n), rfl⟩

theorem norm_any (n : Int) (w : World) : Calls Try.prog 14 #[.int .i64 n] w fun e w' => e = .returned (.int .i64 (n % 128)) ∧ w = w' := by
  go_enter Try.func14, Try.ntmps14
  go_wp2_with (go_at_call 21; refine (wrap_any _ _).mono ?_; rintro e w' ⟨rfl, rfl⟩)
  go_ret
  exact ⟨rfl, rfl⟩

theorem add_any (a b : Int) (w : World) : Calls Try.prog 16 #[.int .i64 a, .int .i64 b] w fun e w' => e = .returned (.int .i64 ((a + b) % 128)) ∧ w = w' := by
  have h0 : 0 ≤ a % 128 := by omega
  have h1 : a % 128 ≤ 127 := by omega
  have h2 : 0 ≤ b % 128 := by omega
  have h3 : b % 128 ≤ 127 := by omega
  go_enter Try.func16, Try.ntmps16
  go_wp2_with (go_at_call 14; refine (norm_any _ _).mono ?_; rintro e w' ⟨rfl, rfl⟩)
  go_ret
  exact ⟨ret_int (by omega), rfl⟩

theorem sub_any (a b : Int) (w : World) : Calls Try.prog 18 #[.int .i64 a, .int .i64 b] w fun e w' => e = .returned (.int .i64 ((a - b) % 128)) ∧ w = w' := by
  have h0 : 0 ≤ a % 128 := by omega
  have h1 : a % 128 ≤ 127 := by omega
  have h2 : 0 ≤ b % 128 := by omega
  have h3 : b % 128 ≤ 127 := by omega
  go_enter Try.func18, Try.ntmps18
  go_wp2_with (go_at_call 14; refine (norm_any _ _).mono ?_; rintro e w' ⟨rfl, rfl⟩)
  go_ret
  exact ⟨ret_int (by omega), rfl⟩

theorem valid_any (a b c : Int) (w : World) : Calls Try.prog 10 #[.int .i64 a, .int .i64 b, .int .i64 c] w fun e w' => e = .returned (.bool (decide ((b - a) % 128 ≤ (c - a) % 128))) ∧ w = w' := by
  go_enter Try.func10, Try.ntmps10
  go_wp2_with (go_at_call 18; refine (sub_any _ _ _).mono ?_; rintro e w' ⟨rfl, rfl⟩)
  go_ret
  exact ⟨rfl, rfl⟩

theorem room_any (a b k : Int) (w : World) : Calls Try.prog 12 #[.int .i64 a, .int .i64 b, .int .i64 k] w fun e w' => e = .returned (.int .i64 (max 0 (max 1 (min k 127) - (b - a) % 128))) ∧ w = w' := by
  have h2 : 0 ≤ (b - a) % 128 := by omega
  have h3 : (b - a) % 128 ≤ 127 := by omega
  go_enter Try.func12, Try.ntmps12
  go_wp2_with (go_at_call 18; refine (sub_any _ _ _).mono ?_; rintro e w' ⟨rfl, rfl⟩)
  all_goals (go_ret; exact ⟨ret_int (by omega), rfl⟩)

theorem wakes_any (w : World) : Calls Try.prog 9 #[] w fun e w' => e = .returned (.bool true) ∧ w = w' := by
  go_enter Try.func9, Try.ntmps9
  go_wp2_with (first | (go_at_call 18; refine (sub_any _ _ _).mono ?_; rintro e w' ⟨rfl, rfl⟩) | (go_at_call 10; refine (valid_any _ _ _ _).mono ?_; rintro e w' ⟨rfl, rfl⟩) | (go_at_call 12; refine (room_any _ _ _ _).mono ?_; rintro e w' ⟨rfl, rfl⟩))
  go_ret
  exact ⟨rfl, rfl⟩

set_option maxHeartbeats 400000 in
theorem turn_any (n k : Int) (b : Nat) (w : World) (hc : w.cell? ⟨b, 0, none⟩ = some (.int .i64 n)) : Calls Try.prog 20 #[.int .i64 k, .pointer (some ⟨b, 0, none⟩)] w fun e w' => e = .returned (.int .i64 ((k + n) % 128)) ∧ w = w' := by
  go_enter Try.func20, Try.ntmps20
  go_wp2_with (first | (go_at_call 16; refine (add_any _ _ _).mono ?_; rintro e w' ⟨rfl, rfl⟩))
  go_ret
  exact ⟨rfl, rfl⟩
end Go.Proofs.Ytagchdblieegcaa.Mine
