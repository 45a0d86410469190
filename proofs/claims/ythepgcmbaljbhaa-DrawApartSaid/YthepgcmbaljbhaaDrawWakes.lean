/- The contract of layer 11's wakes: it answers true, and leaves what was there as it was. -/
import Derived.Test.YthepgcmbaljbhaaDrawNew
namespace Go.Proofs.Ythepgcmbaljbhaa.Mine
open Go.RowKit Go.Proofs.YthepgcmbaljbhaaW.PrintWords

theorem reads_new (w : World) (xs : List Int) (hl : xs.length ≤ 1000) : ReadsInt (w.alloc (.cells (nums .i64 xs).toArray 3)) .i64 (some ⟨w.heap.size, 0, none⟩) xs.length xs :=
  own_reads' (own_lit w 0 3 .i64 xs (Nat.zero_le _) (by omega))

theorem lcg_first : lcg 0 / 281474976710656 = 5125 := by decide

set_option maxHeartbeats 1000000 in
theorem dwakes_any (w : World) :
    Calls Try.prog 13 #[] w fun e w' => e = .returned (.bool true) ∧ Below w.heap.size w w' := by
  have hL := reads_new w [7, -1] (by decide)
  go_enter Try.func13, Try.ntmps13
  go_wp2_with fail
  refine (drawNew_any 0 _ hL (by decide)).mono ?_
  rintro e w1 ⟨g, r, rfl, hg, hr, hr2, hS, hb⟩
  have B1 := ((Below.refl w.heap.size w).alloc (Nat.le_refl _) (.cells (nums .i64 [7, -1]).toArray 3)).trans (hb.mono (by simp))
  have hg' : w.heap.size ≤ g := by simp at hg; omega
  clear hL hb hr hr2
  go_wp2_with fail
  refine (next_cons _ hS).mono ?_
  rintro e w2 ⟨rfl, hS2, hO2⟩
  have B2 := B1.trans ((hO2.below (B := w.heap.size) B1.size (by simpa using hg')))
  go_wp2_with fail
  refine (next_cons _ hS2).mono ?_
  rintro e w3 ⟨rfl, hS3, hO3⟩
  have B3 := B2.trans ((hO3.below (B := w.heap.size) B2.size (by simpa using hg')))
  go_wp2_with fail
  refine (next_nil _ hS3).mono ?_
  rintro e w4 ⟨rfl, hS4, hO4⟩
  have B4 := B3.trans ((hO4.below (B := w.heap.size) B3.size (by simpa using hg')))
  have hl := lcg_first
  clear hS hS2 hS3 hS4 hO2 hO3 hO4 B1 B2 B3
  go_wp2
  go_ret
  exact ⟨rfl, B4⟩
end Go.Proofs.Ythepgcmbaljbhaa.Mine
