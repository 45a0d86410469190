/- The contracts of bits.Pack at the fields that ctrl and addr hand it, of bits.Field, of the small functions of ctrl and addr. -/
import Derived.Test.YtlfcfmdblmedcaaGreatDoorTFeed
namespace Go.Proofs.YtlfcfmdblmedcaaGreatDoor.Mine
open Go.RowKit Go.Proofs.YtlfcfmdblmedcaaGreatDoorW.PrintWords
attribute [local go_sem] max_int min_int max_of_two min_of_two

theorem or2_fin : ∀ (n : Fin 128) (a : Fin 2), bits .or .i64 (a.val : Int) ((n.val : Int) * 2) = (a.val : Int) + (n.val : Int) * 2 := by decide +kernel
theorem or2 (a n : Int) (ha : a = 0 ∨ a = 1) (h0 : 0 ≤ n) (h1 : n ≤ 127) : bits .or .i64 a (n * 2) = a + n * 2 := by
  obtain ⟨m, rfl⟩ := Int.eq_ofNat_of_zero_le h0
  rcases ha with rfl | rfl
  · exact or2_fin ⟨m, by omega⟩ 0
  · exact or2_fin ⟨m, by omega⟩ 1
def Pack2Inv (w : World) (a n : Int) (o l i : Value) (wr : World) : Prop :=
  ((i = .int .i64 0 ∧ o = .int .i64 0 ∧ l = .int .i64 0) ∨ (i = .int .i64 1 ∧ o = .int .i64 a ∧ l = .int .i64 1) ∨ (i = .int .i64 2 ∧ o = .int .i64 (a + n * 2) ∧ l = .int .i64 8)) ∧ Below w.heap.size w wr
set_option maxHeartbeats 1000000 in
set_option maxRecDepth 100000 in
theorem pack2_any {g : Nat} (a n : Int) (w : World) (h : w.heap[g]? = some (.cells #[.int .i64 1, .int .i64 a, .int .i64 7, .int .i64 n] 45 (0, 0))) (ha : a = 0 ∨ a = 1) (h0 : 0 ≤ n) (h1 : n ≤ 127) :
    Calls Tryz.prog 82 #[.slice (some ⟨g, 0, none⟩) 2 2] w fun e w' => e = .returned (.tuple #[.int .u8 (a + n * 2), .int .i64 0]) ∧ Below w.heap.size w w' := by
  have hor := or2 a n ha h0 h1
  have hor0 : bits .or .i64 0 a = a := by rcases ha with rfl | rfl <;> decide
  have ha0 : 0 ≤ a := by omega
  have ha1 : a ≤ 1 := by omega
  have hq0 : a / 2 = 0 := by omega
  have hq1 : n / 128 = 0 := by omega
  clear ha
  go_enter Tryz.func82, Tryz.ntmps82
  go_wp2
  go_loopw [4, 5, 10] (fun o l i wr => Pack2Inv w a n o l i wr) (fun _ _ i _ => 2 - (intOf i).toNat)
  case atStart => exact ⟨Or.inl ⟨rfl, rfl, rfl⟩, Below.refl _ _⟩
  case round =>
    obtain ⟨hk, hb⟩ := hrel
    have hg : wr.heap[g]? = _ := (hb.block g (lt_of_at h)).trans h
    have c0 := at_cell hg 0
    have c1 := at_cell hg 1
    have c2 := at_cell hg 2
    have c3 := at_cell hg 3
    simp at c0 c1 c2 c3
    have HB := Lib.hid hb
    clear hg hb
    rcases hk with ⟨rfl, rfl, rfl⟩ | ⟨rfl, rfl, rfl⟩ | ⟨rfl, rfl, rfl⟩
    · go_wp2
      go_roundw
      case rel => exact ⟨Or.inr (Or.inl ⟨rfl, rfl, rfl⟩), HB.out.alloc HB.out.size _⟩
      case measure => simp [intOf]
    · go_wp2
      go_roundw
      case rel => exact ⟨Or.inr (Or.inr ⟨rfl, rfl, rfl⟩), HB.out.alloc HB.out.size _⟩
      case measure => simp [intOf]
    · go_wp2
      go_ret2
      exact ⟨rfl, HB.out⟩
def Pack3Inv (w : World) (o l i : Value) (wr : World) : Prop :=
  ((i = .int .i64 0 ∧ o = .int .i64 0 ∧ l = .int .i64 0) ∨ (i = .int .i64 1 ∧ o = .int .i64 0 ∧ l = .int .i64 1) ∨ (i = .int .i64 2 ∧ o = .int .i64 0 ∧ l = .int .i64 2) ∨ (i = .int .i64 3 ∧ o = .int .i64 0 ∧ l = .int .i64 8)) ∧ Below w.heap.size w wr
set_option maxHeartbeats 1000000 in
set_option maxRecDepth 100000 in
theorem pack3_zero {g : Nat} (w : World) (h : w.heap[g]? = some (.cells #[.int .i64 1, .int .i64 0, .int .i64 1, .int .i64 0, .int .i64 6, .int .i64 0] 45 (0, 0))) :
    Calls Tryz.prog 82 #[.slice (some ⟨g, 0, none⟩) 3 3] w fun e w' => e = .returned (.tuple #[.int .u8 0, .int .i64 0]) ∧ Below w.heap.size w w' := by
  have hor0 : bits .or .i64 0 0 = 0 := by decide
  go_enter Tryz.func82, Tryz.ntmps82
  go_wp2
  go_loopw [4, 5, 10] (fun o l i wr => Pack3Inv w o l i wr) (fun _ _ i _ => 3 - (intOf i).toNat)
  case atStart => exact ⟨Or.inl ⟨rfl, rfl, rfl⟩, Below.refl _ _⟩
  case round =>
    obtain ⟨hk, hb⟩ := hrel
    have hg : wr.heap[g]? = _ := (hb.block g (lt_of_at h)).trans h
    have c0 := at_cell hg 0
    have c1 := at_cell hg 1
    have c2 := at_cell hg 2
    have c3 := at_cell hg 3
    have c4 := at_cell hg 4
    have c5 := at_cell hg 5
    simp at c0 c1 c2 c3 c4 c5
    have HB := Lib.hid hb
    clear hg hb
    rcases hk with ⟨rfl, rfl, rfl⟩ | ⟨rfl, rfl, rfl⟩ | ⟨rfl, rfl, rfl⟩ | ⟨rfl, rfl, rfl⟩
    · go_wp2
      go_roundw
      case rel => exact ⟨Or.inr (Or.inl ⟨rfl, rfl, rfl⟩), HB.out.alloc HB.out.size _⟩
      case measure => simp [intOf]
    · go_wp2
      go_roundw
      case rel => exact ⟨Or.inr (Or.inr (Or.inl ⟨rfl, rfl, rfl⟩)), HB.out.alloc HB.out.size _⟩
      case measure => simp [intOf]
    · go_wp2
      go_roundw
      case rel => exact ⟨Or.inr (Or.inr (Or.inr ⟨rfl, rfl, rfl⟩)), HB.out.alloc HB.out.size _⟩
      case measure => simp [intOf]
    · go_wp2
      go_ret2
      exact ⟨rfl, HB.out⟩

def b01 (p : Bool) : Int := if p then 1 else 0
theorem ctrlone_any (p : Bool) (w : World) : Calls Tryz.prog 81 #[.bool p] w fun e w' => e = .returned (.int .i64 (b01 p)) ∧ w = w' := by
  cases p
  all_goals
    go_enter Tryz.func81, Tryz.ntmps81
    go_wp2
    go_ret
    exact ⟨rfl, rfl⟩
theorem addrone_any (p : Bool) (w : World) : Calls Tryz.prog 83 #[.bool p] w fun e w' => e = .returned (.int .i64 (b01 p)) ∧ w = w' := by
  cases p
  all_goals
    go_enter Tryz.func83, Tryz.ntmps83
    go_wp2
    go_ret
    exact ⟨rfl, rfl⟩
theorem good_kind (k : Int) (w : World) : Calls Tryz.prog 80 #[.int .i64 k] w fun e w' => e = .returned (.bool (decide (0 ≤ k ∧ k < 10))) ∧ w = w' := by
  by_cases h0 : 0 ≤ k
  · go_enter Tryz.func80, Tryz.ntmps80
    go_wp2
    go_ret
    exact ⟨ret_bool (by simp [h0]), rfl⟩
  · have q : decide (0 ≤ k) = false := by simpa using h0
    go_enter Tryz.func80, Tryz.ntmps80
    go_wp2
    go_ret
    exact ⟨ret_bool (by simp), rfl⟩
theorem numbered_any (k : Int) (w : World) : Calls Tryz.prog 57 #[.int .i64 k] w fun e w' => e = .returned (.bool (decide (0 ≤ k ∧ k ≤ 3))) ∧ w = w' := by
  by_cases h0 : 0 ≤ k
  · go_enter Tryz.func57, Tryz.ntmps57
    go_wp2
    go_ret
    exact ⟨ret_bool (by simp [h0]), rfl⟩
  · have q : decide (0 ≤ k) = false := by simpa using h0
    go_enter Tryz.func57, Tryz.ntmps57
    go_wp2
    go_ret
    exact ⟨ret_bool (by simp), rfl⟩
end Go.Proofs.YtlfcfmdblmedcaaGreatDoor.Mine
