/- The contract of lapwingtop.made. -/
import Derived.Test.YtlfcfmdblmedcaaGreatDoorTFlip
import Derived.Test.YtlfcfmdblmedcaaGreatDoorTPut
namespace Go.Proofs.YtlfcfmdblmedcaaGreatDoor.Mine
open Go.RowKit Go.Proofs.YtlfcfmdblmedcaaGreatDoorW.PrintWords
attribute [local go_sem] max_int min_int max_of_two min_of_two

/-- A frame that made tells: what frame.Put wants of it. -/
def FrOk (k ns nr : Int) (info : ByteArray) : Prop := (k = 0 ∨ k = 6 ∨ k = 1 ∨ k = 4) ∧ (0 ≤ ns ∧ ns ≤ 127) ∧ (0 ≤ nr ∧ nr ≤ 127) ∧ (k ≠ 0 → ns = 0) ∧ (k ≠ 0 → k ≠ 1 → nr = 0) ∧ (k = 0 ∨ k = 6 ∨ info.size = 0) ∧ info.size ≤ 100
def frV (k ns nr : Int) (pf : Bool) (info : ByteArray) : Value := .agg #[.int .i64 0, .int .i64 64, .bool true, .int .i64 k, .bool pf, .int .i64 ns, .int .i64 nr, .string info]
theorem and127 (x : Int) : 0 ≤ bits .and .i64 x 127 ∧ bits .and .i64 x 127 ≤ 127 := by
  have h : (BitVec.ofInt 64 x &&& BitVec.ofInt 64 127).toNat ≤ 127 := by rw [BitVec.toNat_and]; exact Nat.and_le_right
  have e : bits .and .i64 x 127 = IntKind.i64.wrap ((BitVec.ofInt 64 x &&& BitVec.ofInt 64 127).toNat : Int) := rfl
  rw [e, IntKind.wrap_i64]
  omega
theorem extract_size (s : ByteArray) (q : Nat) : (s.extract 0 q).size ≤ q := by simp [ByteArray.size_extract]; omega

theorem made_box (w : World) (o o' : Obj) : ((w.alloc o).alloc o').heap[w.heap.size + 1]? = some o' := by
  have h := at_new (w.alloc o) o'
  rwa [World.size_alloc] at h
set_option maxHeartbeats 2000000 in
set_option maxRecDepth 100000 in
theorem made_any (kind ns nr : Int) (pf : Bool) (info : ByteArray) (w : World) :
    Calls Tryz.prog 27 #[.agg #[.int .i64 kind, .int .i64 ns, .int .i64 nr, .bool pf, .string info]] w fun e w' => ∃ k ns' nr' info', FrOk k ns' nr' info' ∧ e = .returned (frV k ns' nr' pf info') ∧ Below w.heap.size w w' := by
  obtain ⟨p, N, h1, h2, h3, h4, -⟩ := rounds_of kind 4 (by decide)
  have hN : N = 0 ∨ N = 1 ∨ N = 2 ∨ N = 3 := by omega
  have ha := and127 ns
  have hb := and127 nr
  obtain ⟨q, hq1, hq2, hq3⟩ := cut_at info.size 100 (by decide)
  obtain ⟨ns2, hns⟩ : ∃ y, bits .and .i64 ns 127 = y := ⟨_, rfl⟩
  obtain ⟨nr2, hnr⟩ : ∃ y, bits .and .i64 nr 127 = y := ⟨_, rfl⟩
  rw [hns] at ha
  rw [hnr] at hb
  have hsz : (info.extract 0 (min (info.size : Int) 100).toNat).size ≤ 100 := Nat.le_trans (extract_size _ _) (by omega)
  rcases hN with rfl | rfl | rfl | rfl
  · have h5 : p % 4 = 0 := h3
    clear h3
    go_enter Tryz.func27, Tryz.ntmps27
    go_wp2_with (go_at_call 57; refine (numbered_any _ _).mono ?_; rintro e w1 ⟨rfl, rfl⟩)
    refine bodyPost_ret (results_cell_row rfl _ _ (w.heap.size + 1) 66 #[.int .i64 0, .int .i64 64, .bool true, .int .i64 0, .bool pf, .int .i64 ns2, .int .i64 nr2, .string (info.extract 0 (min (info.size : Int) 100).toNat)] (0, 0) _ rfl (at_alloc (at_alloc (made_box w _ _) _) _) Tryz.underlying66 rfl (by kernel_rfl)) rfl ?_
    refine ⟨0, ns2, nr2, info.extract 0 (min (info.size : Int) 100).toNat, ⟨by omega, by omega, by omega, by omega, by omega, Or.inl rfl, hsz⟩, rfl, ?_⟩
    exact ((((Below.refl _ _).alloc (Nat.le_refl _) _).alloc (by simp) _).alloc (by simp; omega) _).alloc (by simp; omega) _
  · have h5 : p % 4 = 1 := h3
    clear h3
    go_enter Tryz.func27, Tryz.ntmps27
    go_wp2_with (go_at_call 57; refine (numbered_any _ _).mono ?_; rintro e w1 ⟨rfl, rfl⟩)
    refine bodyPost_ret (results_cell_row rfl _ _ (w.heap.size + 1) 66 #[.int .i64 0, .int .i64 64, .bool true, .int .i64 6, .bool pf, .int .i64 0, .int .i64 0, .string (info.extract 0 (min (info.size : Int) 100).toNat)] (0, 0) _ rfl (at_alloc (at_alloc (made_box w _ _) _) _) Tryz.underlying66 rfl (by kernel_rfl)) rfl ?_
    refine ⟨6, 0, 0, info.extract 0 (min (info.size : Int) 100).toNat, ⟨by omega, by omega, by omega, by omega, by omega, Or.inr (Or.inl rfl), hsz⟩, rfl, ?_⟩
    exact ((((Below.refl _ _).alloc (Nat.le_refl _) _).alloc (by simp) _).alloc (by simp; omega) _).alloc (by simp; omega) _
  · have h5 : p % 4 = 2 := h3
    clear h3
    go_enter Tryz.func27, Tryz.ntmps27
    go_wp2_with (go_at_call 57; refine (numbered_any _ _).mono ?_; rintro e w1 ⟨rfl, rfl⟩)
    refine bodyPost_ret (results_cell_row rfl _ _ (w.heap.size + 1) 66 #[.int .i64 0, .int .i64 64, .bool true, .int .i64 1, .bool pf, .int .i64 0, .int .i64 nr2, .string (⟨#[]⟩)] (0, 0) _ rfl (at_alloc (at_alloc (made_box w _ _) _) _) Tryz.underlying66 rfl (by kernel_rfl)) rfl ?_
    refine ⟨1, 0, nr2, ⟨#[]⟩, ⟨by omega, by omega, by omega, by omega, by omega, Or.inr (Or.inr rfl), by decide⟩, rfl, ?_⟩
    exact ((((Below.refl _ _).alloc (Nat.le_refl _) _).alloc (by simp) _).alloc (by simp; omega) _).alloc (by simp; omega) _
  · have h5 : p % 4 = 3 := h3
    clear h3
    go_enter Tryz.func27, Tryz.ntmps27
    go_wp2_with (go_at_call 57; refine (numbered_any _ _).mono ?_; rintro e w1 ⟨rfl, rfl⟩)
    refine bodyPost_ret (results_cell_row rfl _ _ (w.heap.size + 1) 66 #[.int .i64 0, .int .i64 64, .bool true, .int .i64 4, .bool pf, .int .i64 0, .int .i64 0, .string (⟨#[]⟩)] (0, 0) _ rfl (at_alloc (at_alloc (made_box w _ _) _) _) Tryz.underlying66 rfl (by kernel_rfl)) rfl ?_
    refine ⟨4, 0, 0, ⟨#[]⟩, ⟨by omega, by omega, by omega, by omega, by omega, Or.inr (Or.inr rfl), by decide⟩, rfl, ?_⟩
    exact ((((Below.refl _ _).alloc (Nat.le_refl _) _).alloc (by simp) _).alloc (by simp; omega) _).alloc (by simp; omega) _
end Go.Proofs.YtlfcfmdblmedcaaGreatDoor.Mine
