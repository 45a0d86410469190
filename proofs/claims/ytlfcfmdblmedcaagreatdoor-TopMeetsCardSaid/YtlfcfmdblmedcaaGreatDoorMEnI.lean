/- An entity is made, gets its TEI, is asked, is looked at (written by wip/eni.py). -/
import Derived.Test.YtlfcfmdblmedcaaGreatDoorMEnJ
namespace Go.Proofs.YtlfcfmdblmedcaaGreatDoor.Mine
open Go.RowKit Go.Maps Go.Proofs.YtlfcfmdblmedcaaGreatDoorW.PrintWords
attribute [local go_sem] max_int min_int max_of_two min_of_two

theorem qnew_any (w : World) : Calls Tryz.prog 48 #[.int .i64 256] w fun en w' => en = .returned (.pointer (some ⟨w.heap.size, 0, none⟩)) ∧ w' = w.alloc (.cells #[.int .i64 256, .slice none 0 0, .int .i64 0] 139) := by
  go_enter Tryz.func48, Tryz.ntmps48
  go_wp2
  go_ret
  exact ⟨rfl, rfl⟩
theorem fnew_any (w : World) : Calls Tryz.prog 22 #[.int .i64 7, .int .i64 256] w fun en w' => en = .returned (.pointer (some ⟨w.heap.size + 1, 0, none⟩)) ∧ w' = (w.alloc (.cells #[.int .i64 256, .slice none 0 0, .int .i64 0] 139)).alloc (.cells #[.int .i64 0, .int .i64 0, .int .i64 0, .bool false, .bool false, .bool false, .int .i64 7, .pointer (some ⟨w.heap.size, 0, none⟩)] 109) := by
  go_enter Tryz.func22, Tryz.ntmps22
  go_wp2_with fail
  refine (qnew_any _).mono ?_
  rintro en w1 ⟨rfl, rfl⟩
  go_wp2
  go_ret
  exact ⟨by simp, rfl⟩
/-- A new entity. -/
def EnNew (w : World) (e rb fl q : Nat) (N : Int) : Prop := EnI [] w w e rb fl q N 1 (-1) 0 false false false 0 FS.zero (.slice none 0 0) []
theorem rf_no : (fun _ => false) = rf false false := by
  funext x
  simp [rf]
theorem at_new' {w : World} {n : Nat} (o : Obj) (hn : n = w.heap.size) : (w.alloc o).heap[n]? = some o := by
  rw [hn]
  exact at_new w o
theorem Runs.bare {w : World} {rb : Nat} (hm : w.heap[rb]? = some (.map #[] 0)) : Runs w rb (rf false false) 0 := by
  rw [← rf_no]
  obtain ⟨D, ⟨es, clock, hb, hr⟩, h2⟩ := Runs.made w
  have hb' := at_new w (.map #[] 0)
  rw [hb] at hb'
  injection hb' with hb'
  injection hb' with h3 h4
  subst h3 h4
  exact ⟨D, ⟨#[], 0, hm, hr⟩, h2⟩
theorem enNew_mk {w : World} {e rb fl q : Nat} {N : Int} (hb : w.heap[e]? = some (.cells #[.int .i64 N, .int .i64 1, .int .i64 (-1), .int .i64 0, .bool false, .map (some rb), .slice none 0 0, .pointer (some ⟨fl, 0, none⟩), .slice none 0 0] 72 (0, 0))) (hm : w.heap[rb]? = some (.map #[] 0))
    (hf : w.heap[fl]? = some (.cells #[.int .i64 0, .int .i64 0, .int .i64 0, .bool false, .bool false, .bool false, .int .i64 7, .pointer (some ⟨q, 0, none⟩)] 109 (0, 0))) (hq : w.heap[q]? = some (.cells #[.int .i64 256, .slice none 0 0, .int .i64 0] 139 (0, 0))) : EnNew w e rb fl q N :=
  ⟨hb, ⟨0, Nat.le_refl _, Runs.bare hm⟩, FZ.flow ⟨hf, hq⟩, Tail.nil _ _ _ _, Only.refl _ _, ⟨lt_of_at hb, lt_of_at hm, lt_of_at hf, lt_of_at hq⟩, fun _ hx => by cases hx⟩
set_option maxHeartbeats 4000000 in
theorem new_any (N : Int) (hN : N = 3 ∨ N = 30) (w : World) : Calls Tryz.prog 14 #[.agg #[.int .i64 7, .int .i64 N]] w fun en w' => ∃ e rb fl q, en = .returned (.pointer (some ⟨e, 0, none⟩)) ∧ EnNew w' e rb fl q N ∧ Below w.heap.size w w' ∧ w.heap.size ≤ e ∧ w.heap.size ≤ rb ∧ w.heap.size ≤ fl ∧ w.heap.size ≤ q := by
  have hmm := @run_makeMap Tryz.prog
  rcases hN with rfl | rfl
  · go_enter Tryz.func14, Tryz.ntmps14
    go_wp2_with fail
    go_region_held3 (fun w' => w'.cell? ⟨w.heap.size, 0, none⟩ = some (.int .i64 7) ∧ w'.cell? ⟨w.heap.size, 1, none⟩ = some (.int .i64 3)) (exact ⟨by go_simp, by go_simp⟩) ((go_at_call 22; refine (fnew_any _).mono ?_; rintro en w1 ⟨rfl, rfl⟩))
    all_goals (
      go_wp2
      go_ret
      refine ⟨_, _, _, _, rfl, enNew_mk (at_new' _ (by simp)) (by first | exact at_new' _ (by simp) | exact at_alloc (at_new' _ (by simp)) _ | exact at_alloc (at_alloc (at_new' _ (by simp)) _) _ | exact at_alloc (at_alloc (at_alloc (at_new' _ (by simp)) _) _) _) (by first | exact at_new' _ (by simp) | exact at_alloc (at_new' _ (by simp)) _ | exact at_alloc (at_alloc (at_new' _ (by simp)) _) _ | exact at_alloc (at_alloc (at_alloc (at_new' _ (by simp)) _) _) _) (by first | exact at_new' _ (by simp) | exact at_alloc (at_new' _ (by simp)) _ | exact at_alloc (at_alloc (at_new' _ (by simp)) _) _ | exact at_alloc (at_alloc (at_alloc (at_new' _ (by simp)) _) _) _), ?_, by omega, by omega, by omega, by omega⟩
      exact Below.drew ((((((Below.refl w.heap.size w).alloc (Nat.le_refl _) _).alloc (by simp only [World.size_alloc]; omega) _).alloc (by simp only [World.size_alloc]; omega) _).alloc (by simp only [World.size_alloc]; omega) _).alloc (by simp only [World.size_alloc]; omega) _))
  · go_enter Tryz.func14, Tryz.ntmps14
    go_wp2_with fail
    go_region_held3 (fun w' => w'.cell? ⟨w.heap.size, 0, none⟩ = some (.int .i64 7) ∧ w'.cell? ⟨w.heap.size, 1, none⟩ = some (.int .i64 30)) (exact ⟨by go_simp, by go_simp⟩) ((go_at_call 22; refine (fnew_any _).mono ?_; rintro en w1 ⟨rfl, rfl⟩))
    all_goals (
      go_wp2
      go_ret
      refine ⟨_, _, _, _, rfl, enNew_mk (at_new' _ (by simp)) (by first | exact at_new' _ (by simp) | exact at_alloc (at_new' _ (by simp)) _ | exact at_alloc (at_alloc (at_new' _ (by simp)) _) _ | exact at_alloc (at_alloc (at_alloc (at_new' _ (by simp)) _) _) _) (by first | exact at_new' _ (by simp) | exact at_alloc (at_new' _ (by simp)) _ | exact at_alloc (at_alloc (at_new' _ (by simp)) _) _ | exact at_alloc (at_alloc (at_alloc (at_new' _ (by simp)) _) _) _) (by first | exact at_new' _ (by simp) | exact at_alloc (at_new' _ (by simp)) _ | exact at_alloc (at_alloc (at_new' _ (by simp)) _) _ | exact at_alloc (at_alloc (at_alloc (at_new' _ (by simp)) _) _) _), ?_, by omega, by omega, by omega, by omega⟩
      exact Below.drew ((((((Below.refl w.heap.size w).alloc (Nat.le_refl _) _).alloc (by simp only [World.size_alloc]; omega) _).alloc (by simp only [World.size_alloc]; omega) _).alloc (by simp only [World.size_alloc]; omega) _).alloc (by simp only [World.size_alloc]; omega) _))
end Go.Proofs.YtlfcfmdblmedcaaGreatDoor.Mine
