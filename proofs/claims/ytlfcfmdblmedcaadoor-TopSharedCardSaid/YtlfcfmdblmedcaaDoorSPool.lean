/- The contracts of package pool: each for every pool that lies in memory as told. -/
import Derived.Test.YtlfcfmdblmedcaaDoorProg
import Derived.Test.YtlfcfmdblmedcaaDoorBase
import Derived.Deep.QuietTactic
import Derived.BigQuiet
import Derived.Deep.RegionWith
import Derived.Test.YtlfcfmdblmedcaaDoorPoolPlain
namespace Go.Proofs.YtlfcfmdblmedcaaDoor.Mine
open Go.RowKit

/-- A pool in block g: which bits are set, and which was told last. -/
def PoolAt (w : World) (g : Nat) (B last : Nat) : Prop :=
  w.heap[g]? = some (.cells #[.int .u64 (B : Int), .int .i64 (last : Int)] 151 (0, 0)) ∧ B < 2 ^ 63 ∧ last < 63
theorem PoolAt.keep {w w' : World} {g B last : Nat} {S : List Nat} (h : PoolAt w g B last) (k : Only S w w') (hg : g ∉ S) : PoolAt w' g B last :=
  ⟨k.at h.1 hg, h.2⟩

theorem poolNew_any (w : World) : Calls Tryd.prog 41 #[] w fun e w' => ∃ g, e = .returned (.pointer (some ⟨g, 0, none⟩)) ∧ w.heap.size ≤ g ∧ PoolAt w' g 0 62 ∧ Below w.heap.size w w' := by
  go_enter Tryd.func41, Tryd.ntmps41
  go_wp2
  go_ret
  exact ⟨w.heap.size, rfl, Nat.le_refl _, ⟨at_new w _, by decide, by decide⟩, (Below.refl _ _).alloc (Nat.le_refl _) _⟩

theorem pbit_any (tei : Int) (w : World) : Calls Tryd.prog 69 #[.int .i64 tei] w fun e w' => e = .returned (.int .u64 ((bitN tei : Nat) : Int)) ∧ w = w' := by
  by_cases h1 : tei < 64
  · have e := Lib.hid (bitN_none tei (Or.inl h1))
    go_enter Tryd.func69, Tryd.ntmps69
    go_wp2
    go_ret
    exact ⟨ret_int (by rw [e.out]; rfl), rfl⟩
  · by_cases h2 : 126 < tei
    · have e := Lib.hid (bitN_none tei (Or.inr h2))
      go_enter Tryd.func69, Tryd.ntmps69
      go_wp2
      go_ret
      exact ⟨ret_int (by rw [e.out]; rfl), rfl⟩
    · have e := Lib.hid (bitN_some tei (by omega) (by omega))
      go_enter Tryd.func69, Tryd.ntmps69
      go_wp2
      go_ret
      exact ⟨ret_int (by rw [e.out]; exact wrap_pow _ (by omega)), rfl⟩

theorem bit_quiet (tei : Int) (w : World) : Calls Tryd.prog 69 #[.int .i64 tei] w fun e w' => e = .returned (.int .u64 ((bitN tei : Nat) : Int)) ∧ w' = w :=
  (pbit_any tei w).mono fun _ _ h => ⟨h.1, h.2.symm⟩

theorem has_any {g B last : Nat} (tei : Int) (w : World) (h : PoolAt w g B last) :
    Calls Tryd.prog 68 #[.pointer (some ⟨g, 0, none⟩), .int .i64 tei] w fun e w' => e = .returned (.bool (hasB B tei)) ∧ ∃ n, w' = w.drewN n := by
  obtain ⟨h1, hB, hl⟩ := h
  have c0 := at_cell h1 0
  simp at c0
  have hb := and_bit_ne B tei hB
  clear h1
  go_enter Tryd.func68, Tryd.ntmps68
  go_wp2
  go_quiet ((go_at_call 69; exact Calls.quiet_of_same (bit_quiet _ _)))
  go_wp2
  go_ret
  exact ⟨rfl, _, rfl⟩
theorem has_none (tei : Int) (w : World) : Calls Tryd.prog 68 #[.pointer none, .int .i64 tei] w fun e w' => e = .returned (.bool false) ∧ ∃ n, w' = w.drewN n := by
  go_enter Tryd.func68, Tryd.ntmps68
  go_wp2
  go_quiet (fail)
  go_wp2
  go_ret
  exact ⟨rfl, _, rfl⟩

def freeB (B : Nat) (tei : Int) : Nat := if hasB B tei then offB B (tei - 64).toNat else B
set_option maxHeartbeats 1000000 in
theorem free_any {g B last : Nat} (tei : Int) (w : World) (h : PoolAt w g B last) :
    Calls Tryd.prog 51 #[.pointer (some ⟨g, 0, none⟩), .int .i64 tei] w fun e w' => e = .returned (.bool (hasB B tei)) ∧ PoolAt w' g (freeB B tei) last ∧ Only [g] w w' := by
  cases hh : hasB B tei
  · have hf : freeB B tei = B := by unfold freeB; rw [hh]; rfl
    rw [hf]
    have hq := has_any tei w h
    rw [hh] at hq
    clear hh hf
    go_enter Tryd.func51, Tryd.ntmps51
    go_wp2_with (go_at_call 68; refine hq.mono ?_; rintro e w' ⟨rfl, n, rfl⟩)
    go_ret
    exact ⟨rfl, h.keep ((Only.refl [] _).drewN _) (by simp), (Only.refl _ _).drewN _⟩
  · have hf : freeB B tei = offB B (tei - 64).toNat := by unfold freeB; rw [hh]; rfl
    rw [hf]
    have hr : 64 ≤ tei ∧ tei ≤ 126 := by
      by_cases hr : 64 ≤ tei ∧ tei ≤ 126
      · exact hr
      · rw [hasB_none B tei (by omega)] at hh; cases hh
    have hq := has_any tei w h
    rw [hh] at hq
    obtain ⟨h1, hB, hl⟩ := h
    have hoff := off_bit B tei hB hr.1 hr.2
    have c0 := at_cell h1 0
    have f0 := at_frozen h1 0
    simp at c0
    have H1 := Lib.hid h1
    clear h1 hh hf hr
    go_enter Tryd.func51, Tryd.ntmps51
    go_wp2_with (go_at_call 68; refine hq.mono ?_; rintro e w' ⟨rfl, n, rfl⟩)
    go_region_with (go_at_call 69; refine (pbit_any _ _).mono ?_; rintro e w' ⟨rfl, rfl⟩)
    all_goals
      go_wp2
      go_ret
      refine ⟨rfl, ⟨?_, offB_lt _ _ hB, hl⟩, ((Only.refl _ _).drewN _).setCell (Or.inl (by simp)) _⟩
      rw [at_set (w := w.drewN _) H1.out 0 _]; rfl
theorem free_none (tei : Int) (w : World) : Calls Tryd.prog 51 #[.pointer none, .int .i64 tei] w fun e w' => e = .returned (.bool false) ∧ ∃ n, w' = w.drewN n := by
  go_enter Tryd.func51, Tryd.ntmps51
  go_wp2_with (go_at_call 68; refine (has_none _ _).mono ?_; rintro e w' ⟨rfl, n, rfl⟩)
  go_ret
  exact ⟨rfl, _, rfl⟩

/-- What Assign answers, and leaves. -/
def asgT (B last : Nat) : Int := match seek B 63 last with | some j => 64 + (j : Int) | none => 0
def asgE (B last : Nat) : Int := match seek B 63 last with | some _ => 0 | none => 10
def asgB (B last : Nat) : Nat := match seek B 63 last with | some j => orB B j | none => B
def asgL (B last : Nat) : Nat := match seek B 63 last with | some j => j | none => last

def AsgInv (w : World) (g B last : Nat) (i : Value) (wr : World) : Prop :=
  ∃ k l : Nat, i = .int .i64 k ∧ k ≤ 63 ∧ PoolAt wr g B l ∧ Only [g] w wr ∧ seek B 63 last = seek B (63 - k) l ∧ l = (last + k) % 63

set_option maxHeartbeats 1000000 in
theorem assign_any {g B last : Nat} (w : World) (h : PoolAt w g B last) :
    Calls Tryd.prog 73 #[.pointer (some ⟨g, 0, none⟩)] w fun e w' =>
      e = .returned (.tuple #[.int .i64 (asgT B last), .int .i64 (asgE B last)]) ∧ PoolAt w' g (asgB B last) (asgL B last) ∧ Only [g] w w' := by
  have hlast := h.2.2
  go_enter Tryd.func73, Tryd.ntmps73
  go_wp2
  go_loopw [7] (fun i wr => AsgInv w g B last i wr) (fun i _ => 63 - (intOf i).toNat)
  case atStart => exact ⟨0, last, rfl, by omega, h, Only.refl _ _, rfl, by omega⟩
  case round =>
    obtain ⟨k, l, rfl, hk, ⟨h1, hB, hl⟩, ho, hs, hlk⟩ := hrel
    have c0 := at_cell h1 0
    have c1 := at_cell h1 1
    have f0 := at_frozen h1 0
    have f1 := at_frozen h1 1
    simp at c0 c1
    have H1 := Lib.hid h1
    have HLK := Lib.hid hlk
    have HS := Lib.hid hs
    clear h1 hlk hs h
    by_cases hlt : k < 63
    · obtain ⟨l', hl'⟩ : ∃ l', (l + 1) % 63 = l' := ⟨_, rfl⟩
      have hl63 : l' < 63 := by omega
      have e1 : ((l : Int) + 1) % 63 = (l' : Int) := by omega
      have hstep : seek B (63 - k) l = if B.testBit l' then seek B (63 - (k + 1)) l' else some l' := by
        rw [show 63 - k = (63 - (k + 1)) + 1 by omega, seek, hl']
      have HL' := Lib.hid hl'
      have HST := Lib.hid hstep
      clear hl' hstep
      have hb := and_bit B (64 + (l' : Int)) hB
      rw [hasB_at B l' hl63] at hb
      have hor := or_bit B (64 + (l' : Int)) hB (by omega) (by omega)
      rw [show (64 + (l' : Int) - 64).toNat = l' by omega] at hor
      cases ht : B.testBit l'
      · rw [ht] at hb
        have HT := Lib.hid ht
        clear ht
        go_wp2
        go_quiet ((go_at_call 69; exact Calls.quiet_of_same (bit_quiet _ _)))
        go_wp2
        go_region_with (go_at_call 69; refine (pbit_any _ _).mono ?_; rintro e w' ⟨rfl, rfl⟩)
        all_goals
          go_wp2
          go_ret2
          have hseek : seek B 63 last = some l' := by rw [HS.out, HST.out, HT.out]; rfl
          have r1 : asgT B last = 64 + (l' : Int) := by unfold asgT; rw [hseek]
          have r2 : asgE B last = 0 := by unfold asgE; rw [hseek]
          have r3 : asgB B last = orB B l' := by unfold asgB; rw [hseek]
          have r4 : asgL B last = l' := by unfold asgL; rw [hseek]
          rw [r1, r2, r3, r4]
          refine ⟨rfl, ⟨?_, orB_lt _ _ hB hl63, hl63⟩, (((ho.setCell (Or.inl (by simp)) _).drewN _).setCell (Or.inl (by simp)) _)⟩
          have g1 : ((wr.setCell ⟨g, 1, none⟩ (.int .i64 (l' : Int)))).heap[g]? = _ := at_set H1.out 1 _
          have g2 := at_set (w := ((wr.setCell ⟨g, 1, none⟩ (.int .i64 (l' : Int)))).drewN (nq + 1)) g1 0 (.int .u64 ((orB B l' : Nat) : Int))
          exact g2
      · rw [ht] at hb
        have HT := Lib.hid ht
        clear ht
        go_wp2
        go_quiet ((go_at_call 69; exact Calls.quiet_of_same (bit_quiet _ _)))
        go_wp2
        go_roundw
        case rel =>
          refine ⟨k + 1, l', by go_num, by omega, ⟨?_, hB, hl63⟩, (ho.setCell (Or.inl (by simp)) _).drewN _, ?_, ?_⟩
          · exact at_set H1.out 1 _
          · rw [HS.out, HST.out, HT.out]; rfl
          · have := HLK.out; have := HL'.out; omega
        case measure => simp [intOf]; omega
    · obtain rfl : k = 63 := by omega
      go_wp2
      go_ret2
      have hseek : seek B 63 last = none := by rw [HS.out]; rfl
      have hll : l = last := by have := HLK.out; omega
      have r1 : asgT B last = 0 := by unfold asgT; rw [hseek]
      have r2 : asgE B last = 10 := by unfold asgE; rw [hseek]
      have r3 : asgB B last = B := by unfold asgB; rw [hseek]
      have r4 : asgL B last = last := by unfold asgL; rw [hseek]
      rw [r1, r2, r3, r4]
      subst hll
      exact ⟨rfl, ⟨H1.out, hB, hl⟩, ho⟩
theorem assign_none (w : World) :
    Calls Tryd.prog 73 #[.pointer none] w fun e w' => e = .returned (.tuple #[.int .i64 0, .int .i64 1]) ∧ w = w' := by
  go_enter Tryd.func73, Tryd.ntmps73
  go_wp2
  go_ret2
  exact ⟨rfl, rfl⟩
end Go.Proofs.YtlfcfmdblmedcaaDoor.Mine
