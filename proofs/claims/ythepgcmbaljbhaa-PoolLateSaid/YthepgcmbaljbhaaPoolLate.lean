/- PoolLate: the walk of the law, for every two whole numbers. -/
import Derived.Test.YthepgcmbaljbhaaPoolWakes
namespace Go.Proofs.Ythepgcmbaljbhaa.Mine
open Go.RowKit Go.Proofs.YthepgcmbaljbhaaW.PrintWords

theorem late1 : ∀ k : Nat, k < 63 → asgT (2 ^ k - 1) ((k + 62) % 63) = 64 + (k : Int) ∧ asgB (2 ^ k - 1) ((k + 62) % 63) = 2 ^ (k + 1) - 1 ∧ asgL (2 ^ k - 1) ((k + 62) % 63) = (k + 1 + 62) % 63 := by decide +kernel
theorem late2 : ∀ k : Nat, k < 63 → hasB (2 ^ (k + 1) - 1) (64 + (k : Int)) = true ∧ freeB (2 ^ (k + 1) - 1) (64 + (k : Int)) = 2 ^ (k + 1) - 1 - 2 ^ k := by decide +kernel
theorem late3 : ∀ k : Nat, k < 63 → ∀ j : Nat, j < 62 - k → asgT (2 ^ (k + 1 + j) - 1 - 2 ^ k) (k + j) = 65 + (k : Int) + (j : Int) ∧ asgE (2 ^ (k + 1 + j) - 1 - 2 ^ k) (k + j) = 0 ∧
    asgB (2 ^ (k + 1 + j) - 1 - 2 ^ k) (k + j) = 2 ^ (k + 1 + (j + 1)) - 1 - 2 ^ k ∧ asgL (2 ^ (k + 1 + j) - 1 - 2 ^ k) (k + j) = k + (j + 1) := by decide +kernel
theorem late4 : ∀ k : Nat, k < 63 → asgT (2 ^ (k + 1 + (62 - k)) - 1 - 2 ^ k) (k + (62 - k)) = 64 + (k : Int) ∧ asgE (2 ^ (k + 1 + (62 - k)) - 1 - 2 ^ k) (k + (62 - k)) = 0 := by decide +kernel

attribute [local go_sem] max_int min_int max_of_two min_of_two
set_option maxHeartbeats 1000000 in
set_option maxRecDepth 100000 in
theorem late_any (m tei : Int) (w : World) :
    Calls Try.prog 8 #[.int .i64 m, .int .i64 tei] w fun e w' => e = .returned (.bool true) ∧ Below w.heap.size w w' := by
  obtain ⟨p, N, hp, hp0, hN, hN3, -⟩ := rounds_of m 63 (by decide)
  have hN4 : N < 63 := by omega
  clear hN3
  go_enter Try.func8, Try.ntmps8
  go_wp2_with fail
  refine (poolNew_any _).mono ?_
  rintro e w1 ⟨g, rfl, hg, h1, b1⟩
  go_wp2_with fail
  rw [hN]
  clear hN hp hp0
  go_loopw [6, 20] (fun v i wr => ∃ (k : Nat) (t : Int), i = .int .i64 k ∧ k ≤ N + 1 ∧ v = .int .i64 t ∧ (k = 0 ∨ t = 63 + (k : Int)) ∧ PoolAt wr g (2 ^ k - 1) ((k + 62) % 63) ∧ Below w.heap.size w wr) (fun _ i _ => N + 1 - (intOf i).toNat)
  case atStart => exact ⟨0, 0, rfl, by omega, rfl, Or.inl rfl, h1, b1⟩
  case round =>
    obtain ⟨k, t, rfl, hk, rfl, ht, hP, hb⟩ := hrel
    clear h1 b1
    have hgs : ∀ x, x ∈ [g] → w.heap.size ≤ x := by simpa using hg
    by_cases hlt : k < N + 1
    · obtain ⟨e1, e2, e3⟩ := late1 k (by omega)
      go_wp2_with fail
      refine (assign_any _ hP).mono ?_
      rintro e w2 ⟨rfl, h2, o2⟩
      rw [e1]
      rw [e2, e3] at h2
      have b2 := hb.trans (o2.below hb.size hgs)
      clear e1 e2 e3 hP hb o2
      go_wp2
      go_roundw
      case rel => exact ⟨k + 1, 64 + (k : Int), by go_num, by omega, rfl, Or.inr (by omega), h2, b2⟩
      case measure => simp [intOf]; omega
    · obtain rfl : k = N + 1 := by omega
      obtain rfl : t = 64 + (N : Int) := by omega
      obtain ⟨e1, e2⟩ := late2 N hN4
      go_wp2_with fail
      refine (pwakes_any _).mono ?_
      rintro e w2 ⟨rfl, b2⟩
      have hP2 := hP.keep (Only.of_below b2 []) (by simp)
      have hb2 := hb.trans (b2.mono hb.size)
      clear hP hb b2
      go_wp2_with fail
      refine (free_any _ _ hP2).mono ?_
      rintro e w3 ⟨rfl, h3, o3⟩
      rw [e1]
      rw [e2] at h3
      have b3 := hb2.trans (o3.below hb2.size hgs)
      have hl : (N + 1 + 62) % 63 = N := by omega
      rw [hl] at h3
      clear e1 e2 hP2 o3 hb2 hl hlt ht hk
      have h3' : PoolAt w3 g (2 ^ (N + 1 + 0) - 1 - 2 ^ N) (N + 0) := h3
      clear h3
      go_wp2_with fail
      go_loopw [38] (fun i wr => ∃ j : Nat, i = .int .i64 j ∧ j ≤ 62 - N ∧ PoolAt wr g (2 ^ (N + 1 + j) - 1 - 2 ^ N) (N + j) ∧ Below w.heap.size w wr) (fun i _ => 62 - N - (intOf i).toNat)
      case atStart => exact ⟨0, rfl, by omega, h3', b3⟩
      case round =>
        obtain ⟨j, rfl, hj, hP, hb⟩ := hrel
        clear h3' b3
        by_cases hjt : j < 62 - N
        · obtain ⟨e1, e2, e3, e4⟩ := late3 N hN4 j hjt
          have hjt' : (j : Int) < 62 - (N : Int) := by omega
          go_wp2_with fail
          refine (assign_any _ hP).mono ?_
          rintro e w4 ⟨rfl, h4, o4⟩
          rw [e1, e2]
          rw [e3, e4] at h4
          have b4 := hb.trans (o4.below hb.size hgs)
          have z0 : (65 + (N : Int) + (j : Int) == 64 + (N : Int)) = false := by simp; omega
          clear e1 e2 e3 e4 hP hb o4
          go_wp2
          go_roundw
          case rel => exact ⟨j + 1, by go_num, by omega, h4, b4⟩
          case measure => simp [intOf]; omega
        · obtain rfl : j = 62 - N := by omega
          have hjt' : ¬ ((62 - N : Nat) : Int) < 62 - (N : Int) := by omega
          obtain ⟨e1, e2⟩ := late4 N hN4
          go_wp2_with fail
          refine (assign_any _ hP).mono ?_
          rintro e w4 ⟨rfl, h4, o4⟩
          rw [e1, e2]
          have b4 := hb.trans (o4.below hb.size hgs)
          clear e1 e2 hP hb o4 h4
          go_wp2_with fail
          refine (assign_none _).mono ?_
          rintro e w5 ⟨rfl, rfl⟩
          go_wp2_with fail
          refine (claim_none _ _).mono ?_
          rintro e w5 ⟨rfl, rfl⟩
          go_wp2_with fail
          refine (free_none _ _).mono ?_
          rintro e w5 ⟨rfl, n5, rfl⟩
          go_wp2_with fail
          refine (has_none _ _).mono ?_
          rintro e w6 ⟨rfl, n6, rfl⟩
          go_wp2_with fail
          refine (list_none _).mono ?_
          rintro e w7 ⟨rfl, b7⟩
          have b6 : Below w.heap.size w (w4.drewN (n5 + n6)) := b4.trans (((Only.refl [] w4).drewN (n5 + n6)).below b4.size (by simp))
          have b8 := b6.trans (b7.mono b6.size)
          clear b4 b6 b7
          go_wp2
          go_ret
          exact ⟨rfl, b8⟩
end Go.Proofs.Ythepgcmbaljbhaa.Mine
