/- The contracts of package seq at this seat. -/
import Derived.Test.YtlfcfmdblmedcaaGreatDoorTMay
import Derived.Laws.Bits128
namespace Go.Proofs.YtlfcfmdblmedcaaGreatDoor.Mine
open Go.RowKit
attribute [local go_sem] max_int min_int max_of_two min_of_two

theorem wrap_any (n : Int) (w : World) : Calls Tryz.prog 112 #[.int .i64 n] w fun e w' => e = .returned (.int .i64 (n % 128)) ∧ w = w' := by
  go_enter Tryz.func112, Tryz.ntmps112
  go_wp2
  go_ret
  exact ⟨ret_int (i64_and127 n), rfl⟩

theorem norm_any (n : Int) (w : World) : Calls Tryz.prog 106 #[.int .i64 n] w fun e w' => e = .returned (.int .i64 (n % 128)) ∧ w = w' := by
  go_enter Tryz.func106, Tryz.ntmps106
  go_wp2_with (go_at_call 112; refine (wrap_any _ _).mono ?_; rintro e w' ⟨rfl, rfl⟩)
  go_ret
  exact ⟨rfl, rfl⟩

theorem add_any (a b : Int) (w : World) : Calls Tryz.prog 104 #[.int .i64 a, .int .i64 b] w fun e w' => e = .returned (.int .i64 ((a + b) % 128)) ∧ w = w' := by
  have h0 : 0 ≤ a % 128 := by omega
  have h1 : a % 128 ≤ 127 := by omega
  have h2 : 0 ≤ b % 128 := by omega
  have h3 : b % 128 ≤ 127 := by omega
  go_enter Tryz.func104, Tryz.ntmps104
  go_wp2_with (go_at_call 106; refine (norm_any _ _).mono ?_; rintro e w' ⟨rfl, rfl⟩)
  go_ret
  exact ⟨ret_int (by omega), rfl⟩

theorem sub_any (a b : Int) (w : World) : Calls Tryz.prog 108 #[.int .i64 a, .int .i64 b] w fun e w' => e = .returned (.int .i64 ((a - b) % 128)) ∧ w = w' := by
  have h0 : 0 ≤ a % 128 := by omega
  have h1 : a % 128 ≤ 127 := by omega
  have h2 : 0 ≤ b % 128 := by omega
  have h3 : b % 128 ≤ 127 := by omega
  go_enter Tryz.func108, Tryz.ntmps108
  go_wp2_with (go_at_call 106; refine (norm_any _ _).mono ?_; rintro e w' ⟨rfl, rfl⟩)
  go_ret
  exact ⟨ret_int (by omega), rfl⟩

theorem valid_any (a b c : Int) (w : World) : Calls Tryz.prog 107 #[.int .i64 a, .int .i64 b, .int .i64 c] w fun e w' => e = .returned (.bool (decide ((b - a) % 128 ≤ (c - a) % 128))) ∧ w = w' := by
  go_enter Tryz.func107, Tryz.ntmps107
  go_wp2_with (go_at_call 108; refine (sub_any _ _ _).mono ?_; rintro e w' ⟨rfl, rfl⟩)
  go_ret
  exact ⟨rfl, rfl⟩

theorem room_any (a b k : Int) (w : World) : Calls Tryz.prog 102 #[.int .i64 a, .int .i64 b, .int .i64 k] w fun e w' => e = .returned (.int .i64 (max 0 (max 1 (min k 127) - (b - a) % 128))) ∧ w = w' := by
  have h2 : 0 ≤ (b - a) % 128 := by omega
  have h3 : (b - a) % 128 ≤ 127 := by omega
  go_enter Tryz.func102, Tryz.ntmps102
  go_wp2_with (go_at_call 108; refine (sub_any _ _ _).mono ?_; rintro e w' ⟨rfl, rfl⟩)
  all_goals (go_ret; exact ⟨ret_int (by omega), rfl⟩)
end Go.Proofs.YtlfcfmdblmedcaaGreatDoor.Mine
