/- ctrl's tables; the contracts of ctrl.Put, ctrl.Kind.Name, addr.Put, addr.Make. -/
import Derived.Test.YtlfcfmdblmedcaaGreatDoorTPack
import Derived.Deep.RegionHeld3
namespace Go.Proofs.YtlfcfmdblmedcaaGreatDoor.Mine
open Go.RowKit Go.Proofs.YtlfcfmdblmedcaaGreatDoorW.PrintWords
attribute [local go_sem] max_int min_int max_of_two min_of_two

def firstT : List Int := [0, 1, 5, 9, 111, 15, 3, 67, 99, 135]
def namesT : List (List Int) := [[73], [82, 82], [82, 78, 82], [82, 69, 74], [83, 65, 66, 77, 69], [68, 77], [85, 73], [68, 73, 83, 67], [85, 65], [70, 82, 77, 82]]
/-- What ctrl's tables hold. -/
def Tabs (w : World) : Prop :=
  (∀ i, i < 10 → w.cell? ⟨0, i, none⟩ = some (.int .u8 (firstT.getD i 0))) ∧ (∀ i, i < 10 → w.cell? ⟨1, i, none⟩ = some (.string (strOfNums (namesT.getD i []))))
theorem Tabs.keep {w w' : World} {S : List Nat} (h : Tabs w) (k : Only S w w') (h0 : 0 ∉ S) (h1 : 1 ∉ S) : Tabs w' := by
  refine ⟨fun i hi => ?_, fun i hi => ?_⟩
  · exact (World.cell?_of_block (a := ⟨0, i, none⟩) (k.block _ (World.block_lt_of_cell? w _ (h.1 i hi)) h0)).trans (h.1 i hi)
  · exact (World.cell?_of_block (a := ⟨1, i, none⟩) (k.block _ (World.block_lt_of_cell? w _ (h.2 i hi)) h1)).trans (h.2 i hi)
theorem Tabs.below {w w' : World} (h : Tabs w) (b : Below w.heap.size w w') : Tabs w' := h.keep (Only.of_below b []) (by simp) (by simp)
theorem Tabs.lt {w : World} (h : Tabs w) : 1 < w.heap.size := World.block_lt_of_cell? w _ (h.2 0 (by decide))

/-- The octets of a control field, of the four kinds that are sent here. -/
def ctrlL (k ns nr : Int) (p : Bool) : List Int := if k = 6 then [3 + 16 * b01 p] else if k = 4 then [111 + 16 * b01 p] else if k = 0 then [ns * 2, b01 p + nr * 2] else [1, b01 p + nr * 2]
theorem bytes1 (w : World) (a : Int) : (convert 75 9 (.slice (some ⟨w.heap.size, 0, none⟩) 1 1)).run Tryz.prog (w.alloc (.cells #[.int .u8 a] 5)) = .ok (.string (strOfNums [a])) (w.alloc (.cells #[.int .u8 a] 5)) :=
  run_convert_bytes_arg _ 75 5 (by kernel_rfl) (by kernel_rfl) w.heap.size 0 1 1 [a] rfl (fun i hi => by
    rw [at_cell (at_new _ _)]
    rcases i with _ | i
    · rfl
    · omega) 9 (by kernel_rfl)

theorem ret_str {a b : List Int} {x : Value} (h : a = b) : Ending.returned (.tuple #[.string (strOfNums a), x]) = .returned (.tuple #[.string (strOfNums b), x]) := by rw [h]
set_option maxHeartbeats 1000000 in
set_option maxRecDepth 100000 in
theorem ctrlput_short (k ns nr : Int) (p : Bool) (w : World) (hT : Tabs w) (hk : k = 6 ∨ k = 4) :
    Calls Tryz.prog 53 #[.agg #[.int .i64 k, .bool p, .int .i64 ns, .int .i64 nr]] w fun e w' => e = .returned (.tuple #[.string (strOfNums (ctrlL k ns nr p)), .int .i64 0]) ∧ Below w.heap.size w w' := by
  have hcv := fun a => bytes1 (w.alloc (.cells #[.int .i64 k, .bool p, .int .i64 ns, .int .i64 nr] 116)) a
  simp only [World.size_alloc] at hcv
  have c6 := hT.1 6 (by decide)
  have c4 := hT.1 4 (by decide)
  simp [firstT] at c6 c4
  have hl0 : 0 < w.heap.size := by have := hT.lt; omega
  have hb : Below w.heap.size w (w.alloc (.cells #[.int .i64 k, .bool p, .int .i64 ns, .int .i64 nr] 116)) := (Below.refl _ _).alloc (Nat.le_refl _) _
  have HB := Lib.hid hb
  clear hT hb
  rcases hk with rfl | rfl
  all_goals
    cases p
    all_goals
      go_enter Tryz.func53, Tryz.ntmps53
      go_wp2_with (first | (go_at_call 80; refine (good_kind _ _).mono ?_; rintro e w1 ⟨rfl, rfl⟩) | (go_at_call 57; refine (numbered_any _ _).mono ?_; rintro e w1 ⟨rfl, rfl⟩) | (go_at_call 81; refine (ctrlone_any _ _).mono ?_; rintro e w1 ⟨rfl, rfl⟩))
      go_ret2
      exact ⟨ret_str (by simp [ctrlL, b01]; decide +kernel), HB.out.alloc HB.out.size _⟩

set_option maxHeartbeats 2000000 in
set_option maxRecDepth 100000 in
theorem ctrlput_long (k ns nr : Int) (p : Bool) (w : World) (hT : Tabs w) (hk : k = 0 ∨ k = 1) (hs : 0 ≤ ns ∧ ns ≤ 127) (hr : 0 ≤ nr ∧ nr ≤ 127) :
    Calls Tryz.prog 53 #[.agg #[.int .i64 k, .bool p, .int .i64 ns, .int .i64 nr]] w fun e w' => e = .returned (.tuple #[.string (strOfNums (ctrlL k ns nr p)), .int .i64 0]) ∧ Below w.heap.size w w' := by
  have c0 := hT.1 0 (by decide)
  have c1 := hT.1 1 (by decide)
  simp [firstT] at c0 c1
  have hl0 : 0 < w.heap.size := by have := hT.lt; omega
  have hbx := at_new w (.cells #[.int .i64 k, .bool p, .int .i64 ns, .int .i64 nr] 116)
  have hb : Below w.heap.size w (w.alloc (.cells #[.int .i64 k, .bool p, .int .i64 ns, .int .i64 nr] 116)) := (Below.refl _ _).alloc (Nat.le_refl _) _
  have hne : ((w.alloc (.cells #[.int .i64 k, .bool p, .int .i64 ns, .int .i64 nr] 116)).alloc (.cells #[.int .i64 1, .int .i64 (b01 p), .int .i64 7, .int .i64 nr] 45)).heap[w.heap.size + 1]? = some (.cells #[.int .i64 1, .int .i64 (b01 p), .int .i64 7, .int .i64 nr] 45) := by
    have h := at_new (w.alloc (.cells #[.int .i64 k, .bool p, .int .i64 ns, .int .i64 nr] 116)) (.cells #[.int .i64 1, .int .i64 (b01 p), .int .i64 7, .int .i64 nr] 45)
    rwa [World.size_alloc] at h
  have hb2 : Below w.heap.size w ((w.alloc (.cells #[.int .i64 k, .bool p, .int .i64 ns, .int .i64 nr] 116)).alloc (.cells #[.int .i64 1, .int .i64 (b01 p), .int .i64 7, .int .i64 nr] 45)) := hb.alloc hb.size _
  have hbx2 := at_alloc hbx (.cells #[.int .i64 1, .int .i64 (b01 p), .int .i64 7, .int .i64 nr] 45)
  have HN := Lib.hid hne
  have HB2 := Lib.hid hb2
  have HX2 := Lib.hid hbx2
  have HP : Hid (b01 p = 0 ∨ b01 p = 1) := Lib.hid (by cases p; (exact Or.inl rfl); exact Or.inr rfl)
  have HS := Lib.hid hs
  have HR := Lib.hid hr
  have x1 := at_cell hbx 1
  have x3 := at_cell hbx 3
  simp at x1 x3
  clear hT hbx hb hne hb2 hbx2 hs hr
  rcases hk with rfl | rfl
  · go_enter Tryz.func53, Tryz.ntmps53
    go_wp2_with (first | (go_at_call 80; refine (good_kind _ _).mono ?_; rintro e w1 ⟨rfl, rfl⟩) | (go_at_call 57; refine (numbered_any _ _).mono ?_; rintro e w1 ⟨rfl, rfl⟩))
    go_region_held3 (fun w' => w'.cell? ⟨w.heap.size, 1, none⟩ = some (.bool p) ∧ w'.cell? ⟨w.heap.size, 3, none⟩ = some (.int .i64 nr)) (go_keep) (first | (go_at_call 81; refine (ctrlone_any _ _).mono ?_; rintro e w1 ⟨rfl, rfl⟩) | (go_at_call 82; refine (pack2_any (g := w.heap.size + 1) (b01 p) nr _ ?_ HP.out HR.out.1 HR.out.2).mono ?_; (exact HN.out); rintro e w2 ⟨rfl, b2⟩; have hx3 := (b2.block _ (lt_of_at HX2.out)).trans HX2.out; have z0 := at_cell hx3 0; have z1 := at_cell hx3 1; have z2 := at_cell hx3 2; have z3 := at_cell hx3 3; simp at z0 z1 z2 z3; have zl := lt_of_at hx3; have HB3 := Lib.hid (HB2.out.drew.trans (b2.mono HB2.out.size)); clear b2 hx3))
    have hcv := fun W a b => bytes2 W a b
    go_wp2_with fail
    refine (pack2_any 0 ns _ (at_new _ _) (Or.inl rfl) HS.out.1 HS.out.2).mono ?_
    rintro e w3 ⟨rfl, b3⟩
    have HB4 := Lib.hid (HB3.out.trans (((Below.refl _ _).alloc HB3.out.size _).trans (b3.mono (by have := HB3.out.size; simp; omega))))
    clear b3 z0 z1 z2 z3
    go_wp2
    go_ret2
    exact ⟨ret_str (by simp [ctrlL]), HB4.out.alloc HB4.out.size _⟩
  · go_enter Tryz.func53, Tryz.ntmps53
    go_wp2_with (first | (go_at_call 80; refine (good_kind _ _).mono ?_; rintro e w1 ⟨rfl, rfl⟩) | (go_at_call 57; refine (numbered_any _ _).mono ?_; rintro e w1 ⟨rfl, rfl⟩))
    go_region_held3 (fun w' => w'.cell? ⟨w.heap.size, 1, none⟩ = some (.bool p) ∧ w'.cell? ⟨w.heap.size, 3, none⟩ = some (.int .i64 nr)) (go_keep) (first | (go_at_call 81; refine (ctrlone_any _ _).mono ?_; rintro e w1 ⟨rfl, rfl⟩) | (go_at_call 82; refine (pack2_any (g := w.heap.size + 1) (b01 p) nr _ ?_ HP.out HR.out.1 HR.out.2).mono ?_; (exact HN.out); rintro e w2 ⟨rfl, b2⟩; have hx3 := (b2.block _ (lt_of_at HX2.out)).trans HX2.out; have z0 := at_cell hx3 0; have z1 := at_cell hx3 1; have z2 := at_cell hx3 2; have z3 := at_cell hx3 3; simp at z0 z1 z2 z3; have zl := lt_of_at hx3; have HB3 := Lib.hid (HB2.out.drew.trans (b2.mono HB2.out.size)); clear b2 hx3))
    have hcv := fun W a b => bytes2 W a b
    go_wp2
    go_ret2
    exact ⟨ret_str (by simp [ctrlL]), HB3.out.alloc HB3.out.size _⟩
end Go.Proofs.YtlfcfmdblmedcaaGreatDoor.Mine
