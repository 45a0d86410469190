/- The contract of pool's List. -/
import Derived.Test.YtlfcfmdblmedcaaDoorSPool
import Derived.Test.YtlfcfmdblmedcaaDoorDrawNew
namespace Go.Proofs.YtlfcfmdblmedcaaDoor.Mine
open Go.RowKit Go.Proofs.YtlfcfmdblmedcaaDoorW.PrintWords

/-- Those that are assigned, of the first k TEIs, rising. -/
def listB (B : Nat) : Nat → List Int
  | 0 => []
  | k + 1 => listB B k ++ (if B.testBit k then [64 + (k : Int)] else [])
theorem listB_length (B k : Nat) : (listB B k).length ≤ k := by
  induction k with
  | zero => simp [listB]
  | succ k ih => unfold listB; split <;> simp <;> omega

def ListInv (w : World) (g B last : Nat) (v i : Value) (wr : World) : Prop :=
  ∃ k : Nat, i = .int .i64 (64 + (k : Int)) ∧ k ≤ 63 ∧ wr.ownsRow w.heap.size 3 1 v (listB B k).length (nums .i64 (listB B k)) ∧ PoolAt wr g B last ∧ Below w.heap.size w wr

set_option maxHeartbeats 1000000 in
theorem list_any {g B last : Nat} (w : World) (h : PoolAt w g B last) :
    Calls Tryd.prog 52 #[.pointer (some ⟨g, 0, none⟩)] w fun e w' =>
      ∃ A c, e = .returned (.slice A (listB B 63).length c) ∧ Lies w.heap.size w' A c (listB B 63) ∧ PoolAt w' g B last ∧ Below w.heap.size w w' := by
  go_enter Tryd.func52, Tryd.ntmps52
  go_wp2
  go_loopw [3, 4] (fun v i wr => ListInv w g B last v i wr) (fun _ i _ => 127 - (intOf i).toNat)
  case atStart => exact ⟨0, rfl, by omega, own_nil _ _ _ _, h, Below.refl _ _⟩
  case round =>
    obtain ⟨k, rfl, hk, ho, hp, hb⟩ := hrel
    obtain ⟨A1, c1, rfl⟩ := own_slice ho
    have hlen := listB_length B k
    by_cases hlt : k < 63
    · have hstep : listB B (k + 1) = listB B k ++ (if B.testBit k then [64 + (k : Int)] else []) := rfl
      have hq := has_any (64 + (k : Int)) wr hp
      rw [hasB_at B k hlt] at hq
      cases ht : B.testBit k
      · rw [ht] at hq hstep
        have hI : ∀ n, ListInv w g B last (.slice A1 (listB B k).length c1) (.int .i64 (64 + (k : Int) + 1)) (wr.drewN n) := fun n =>
          ⟨k + 1, by go_num, by omega, by rw [hstep]; simp only [Bool.false_eq_true, if_false, List.append_nil]; exact ho, hp.keep ((Only.refl [] _).drewN n) (by simp), ((Only.refl [] _).drewN n).below hb.size (by simp) |> hb.trans⟩
        clear ho hp hb ht hstep
        go_wp2_with (go_at_call 68; refine hq.mono ?_; rintro e w' ⟨rfl, n, rfl⟩)
        go_roundw
        case rel => exact hI _
        case measure => simp [intOf]; omega
      · rw [ht] at hq hstep
        have HO := Lib.hid ho
        have HB := Lib.hid hb
        have HP := Lib.hid hp
        have HST := Lib.hid hstep
        clear ho hb hp ht hstep
        go_wp2_with fail
        refine hq.mono ?_
        rintro e w' ⟨rfl, n, rfl⟩
        have HP' := Lib.hid (HP.out.keep ((Only.refl [] _).drewN n) (by simp))
        have HO' : Hid ((wr.drewN n).ownsRow w.heap.size 3 1 (.slice A1 (listB B k).length c1) (listB B k).length (nums .i64 (listB B k))) := HO.out
        have hsz : w.heap.size ≤ (wr.drewN n).heap.size := HB.out.size
        clear hq
        go_wp2_with (at_builtin; refine print_append_num (w0 := wr.drewN n) w.heap.size rfl _ _ 23 3 .i64 8 rfl Tryd.underlying23 infoInt (by decide) _ (listB B k) (64 + (k : Int)) rfl rfl ?c1 ?c2 ?c3 ?c4 ?c5)
        case c1 => exact HO'.out
        case c2 => exact Below.refl _ _
        case c3 => exact hsz
        case c4 => omega
        case c5 =>
          intro v1 w1 hown hb1 hg1 _
          obtain ⟨A2, c2, rfl⟩ := own_slice hown
          have hB1 : Below w.heap.size w w1 := (HB.out.trans (((Only.refl [] wr).drewN n).below hsz (by simp))).trans hb1
          have hI : ListInv w g B last (.slice A2 ((listB B k).length + 1) c2) (.int .i64 (64 + (k : Int) + 1)) w1 := by
            refine ⟨k + 1, by go_num, by omega, ?_, h.keep (Only.of_below hB1 []) (by simp), hB1⟩
            rw [HST.out]; simpa using hown
          clear hB1
          clear hown hb1 hg1
          go_wp2
          go_roundw
          case rel => exact hI
          case measure => simp [intOf]; omega
    · obtain rfl : k = 63 := by omega
      go_wp2
      go_ret
      obtain ⟨A2, c2, hv, hl⟩ := Row.of_own ho
      exact ⟨_, _, by rw [← hv]; rfl, hl, hp, hb⟩
end Go.Proofs.YtlfcfmdblmedcaaDoor.Mine
