/- SeqTurned: the walk of the law; no condition. -/
import Derived.Test.YtagchdblieegcaaMineA
import Derived.Lib.Hide
import Derived.RegionTactic
import Derived.ChangeAlike
namespace Go.Proofs.Ytagchdblieegcaa.Mine
open Go.RowKit

theorem ret_bool_t {a b : Bool} (h : a = b) : Ending.returned (.bool a) = .returned (.bool b) := by rw [h]

set_option maxHeartbeats 1000000 in
set_option maxRecDepth 100000 in
theorem turned_any (a b c n : Int) (w : World) :
    Calls Try.prog 7 #[.int .i64 a, .int .i64 b, .agg #[.int .i64 c, .int .i64 n]] w fun e w' => e = .returned (.bool true) ∧ Below w.heap.size w w' := by
  have e1 : ((b + n) % 128 - (a + n) % 128) % 128 = (b - a) % 128 := by omega
  have e2 : ((c + n) % 128 - (a + n) % 128) % 128 = (c - a) % 128 := by omega
  go_enter Try.func7, Try.ntmps7
  go_wp2
  go_region
  have hcell : ((w.alloc (Obj.cells #[Value.int IntKind.i64 c, Value.int IntKind.i64 n] 28)).alloc (Obj.cells #[Value.int IntKind.i64 n] 3)).drew.cell? ⟨w.heap.size + 1, 0, none⟩ = some (.int .i64 n) := by go_simp
  go_wp2_with (first | (go_at_call 9; refine (wakes_any _).mono ?_; rintro e w' ⟨rfl, rfl⟩) | (go_at_call 10; refine (valid_any _ _ _ _).mono ?_; rintro e w' ⟨rfl, rfl⟩) | (go_at_call 12; refine (room_any _ _ _ _).mono ?_; rintro e w' ⟨rfl, rfl⟩) | (go_at_call 16; refine (add_any _ _ _).mono ?_; rintro e w' ⟨rfl, rfl⟩) | (go_at_call 20; refine (turn_any n _ _ _ hcell).mono ?_; rintro e w' ⟨rfl, rfl⟩))
  go_ret
  exact ⟨ret_bool_t (by simp), ((((Below.refl _ _).alloc (Nat.le_refl _) _).alloc (by simp) _)).drew⟩
end Go.Proofs.Ytagchdblieegcaa.Mine
