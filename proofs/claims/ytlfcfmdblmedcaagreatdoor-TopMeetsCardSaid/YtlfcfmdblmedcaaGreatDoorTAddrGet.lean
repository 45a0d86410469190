/- The contract of addr.Get. -/
import Derived.Test.YtlfcfmdblmedcaaGreatDoorTGet
namespace Go.Proofs.YtlfcfmdblmedcaaGreatDoor.Mine
open Go.RowKit Go.Proofs.YtlfcfmdblmedcaaGreatDoorW.PrintWords
attribute [local go_sem] max_int min_int max_of_two min_of_two

theorem box3 {w : World} {a b c x y z : Value} {T : TypeId} (n : Nat) : (((((w.alloc (.cells #[a, b, c] T)).drewN n).setCell ⟨w.heap.size, 0, none⟩ x).setCell ⟨w.heap.size, 1, none⟩ y).setCell ⟨w.heap.size, 2, none⟩ z).heap[w.heap.size]? = some (.cells #[x, y, z] T (0, 0)) := by
  have h : ((w.alloc (.cells #[a, b, c] T)).drewN n).heap[w.heap.size]? = some (.cells #[a, b, c] T (0, 0)) := at_new w _
  rw [at_set (at_set (at_set h 0 _) 1 _) 2 _]; rfl
/-- The address that octets begin with: SAPI, TEI, C/R, the error. -/
def addrF (l : List Int) : Int × Int × Bool × Int :=
  if l.length < 2 then (0, 0, false, 3) else if l.getD 0 0 % 2 ≠ 0 ∨ l.getD 1 0 % 2 = 0 then (0, 0, false, 4) else (fieldV (l.getD 0 0) 2 6, fieldV (l.getD 1 0) 1 7, fieldV (l.getD 0 0) 1 1 == 1, 0)
def AddrPost (w : World) (d : Int × Int × Bool × Int) (e : Ending) (w' : World) : Prop := e = .returned (.tuple #[.agg #[.int .i64 d.1, .int .i64 d.2.1, .bool d.2.2.1], .int .i64 d.2.2.2]) ∧ Below w.heap.size w w'

set_option maxHeartbeats 2000000 in
set_option maxRecDepth 100000 in
theorem addrget_any (s : ByteArray) (w : World) (hs : s.size ≤ 10000000) :
    Calls Tryz.prog 62 #[.string s] w (AddrPost w (addrF (bytesOf s))) := by
  have hnew : ∀ a b c, (w.alloc (.cells #[a, b, c] 119)).heap[w.heap.size]? = some (.cells #[a, b, c] 119 (0, 0)) := fun a b c => at_new w _
  have hbel : ∀ a b c, Below w.heap.size w (w.alloc (.cells #[a, b, c] 119)) := fun a b c => (Below.refl _ _).alloc (Nat.le_refl _) _
  have HN := Lib.hid hnew
  have HB := Lib.hid hbel
  clear hnew hbel
  by_cases h2 : s.size < 2
  · have e : addrF (bytesOf s) = (0, 0, false, 3) := by unfold addrF; rw [if_pos (by rw [bytesOf_length]; exact h2)]
    rw [e]
    clear e
    go_enter Tryz.func62, Tryz.ntmps62
    go_wp2
    refine bodyPost_ret (results_ct rfl _ _ w.heap.size 119 #[.int .i64 0, .int .i64 0, .bool false] (0, 0) _ rfl (HN.out _ _ _) Tryz.underlying119 rfl (by kernel_rfl)) rfl ?_
    exact ⟨rfl, HB.out _ _ _⟩
  · have g0 : (bytesOf s).getD 0 0 = bt s 0 := by rw [← rd_bytesOf]; rfl
    have g1 : (bytesOf s).getD 1 0 = bt s 1 := by rw [← rd_bytesOf]; rfl
    have hb0 := bt_nat s 0
    have hb1 := bt_nat s 1
    have r0 := bt_range s 0
    have r1 := bt_range s 1
    have ee : addrF (bytesOf s) = if bt s 0 % 2 ≠ 0 ∨ bt s 1 % 2 = 0 then (0, 0, false, 4) else (fieldV (bt s 0) 2 6, fieldV (bt s 1) 1 7, fieldV (bt s 0) 1 1 == 1, 0) := by
      unfold addrF; rw [if_neg (by rw [bytesOf_length]; exact h2), g0, g1]
    rw [ee]
    clear ee g0 g1
    have hz0 : ((0 : Nat) : Int) = 0 := rfl
    rw [show bt s ((0 : Nat) : Int) = bt s 0 from rfl] at hb0
    rw [show bt s ((1 : Nat) : Int) = bt s 1 from rfl] at hb1
    clear hz0
    obtain ⟨x, hx⟩ : ∃ x, bt s 0 = x := ⟨_, rfl⟩
    obtain ⟨y, hy⟩ : ∃ y, bt s 1 = y := ⟨_, rfl⟩
    rw [hx] at hb0 r0 ⊢
    rw [hy] at hb1 r1 ⊢
    have a0 := u8_and1 x r0.1 (by omega)
    have a1 := u8_and1 y r1.1 (by omega)
    have R0 := Lib.hid r0
    have R1 := Lib.hid r1
    clear hx hy r0 r1
    by_cases h0 : x % 2 = 0
    · by_cases h1 : y % 2 = 0
      · rw [if_pos (Or.inr h1)]
        rw [h0] at a0
        rw [h1] at a1
        clear h0 h1
        go_enter Tryz.func62, Tryz.ntmps62
        go_wp2
        refine bodyPost_ret (results_ct rfl _ _ w.heap.size 119 #[.int .i64 0, .int .i64 0, .bool false] (0, 0) _ rfl (HN.out _ _ _) Tryz.underlying119 rfl (by kernel_rfl)) rfl ?_
        exact ⟨rfl, HB.out _ _ _⟩
      · rw [if_neg (by omega)]
        have h1' : y % 2 = 1 := by omega
        rw [h0] at a0
        rw [h1'] at a1
        clear h0 h1 h1'
        go_enter Tryz.func62, Tryz.ntmps62
        go_wp2_with fail
        go_region_held3 (fun _ => True) (trivial) (first | (go_at_call 88; refine (field_any _ _ _ _ ?_ ?_).mono ?_; (first | exact R0.out | exact R1.out); (decide); rintro e w2 ⟨rfl, n, rfl⟩))
        all_goals
          go_wp2
          refine bodyPost_ret (results_ct rfl _ _ w.heap.size 119 #[.int .i64 (fieldV x 2 6), .int .i64 (fieldV y 1 7), .bool (fieldV x 1 1 == 1)] (0, 0) _ rfl (box3 _) Tryz.underlying119 rfl (by kernel_rfl)) rfl ?_
          exact ⟨rfl, (((((Only.of_below (HB.out (.int .i64 0) (.int .i64 0) (.bool false)) []).drewN _).below (Nat.le_refl _) (by simp)).setCell (Nat.le_refl _) _).setCell (Nat.le_refl _) _).setCell (Nat.le_refl _) _⟩
    · rw [if_pos (Or.inl h0)]
      have h0' : x % 2 = 1 := by omega
      rw [h0'] at a0
      clear h0 h0'
      go_enter Tryz.func62, Tryz.ntmps62
      go_wp2
      refine bodyPost_ret (results_ct rfl _ _ w.heap.size 119 #[.int .i64 0, .int .i64 0, .bool false] (0, 0) _ rfl (HN.out _ _ _) Tryz.underlying119 rfl (by kernel_rfl)) rfl ?_
      exact ⟨rfl, HB.out _ _ _⟩
end Go.Proofs.YtlfcfmdblmedcaaGreatDoor.Mine
