/- The contract of frame.Put, at the frames that are sent here. -/
import Derived.Test.YtlfcfmdblmedcaaGreatDoorTMay
namespace Go.Proofs.YtlfcfmdblmedcaaGreatDoor.Mine
open Go.RowKit Go.Proofs.YtlfcfmdblmedcaaGreatDoorW.PrintWords
attribute [local go_sem] max_int min_int max_of_two min_of_two

/-- The octets of a frame of TEI 64. -/
def putL (k ns nr : Int) (p : Bool) (info : List Int) : List Int := sealL ([0, 129] ++ ctrlL k ns nr p ++ info)
theorem ctrlput_any (k ns nr : Int) (p : Bool) (w : World) (hT : Tabs w) (hk : k = 0 ∨ k = 6 ∨ k = 1 ∨ k = 4) (hs : 0 ≤ ns ∧ ns ≤ 127) (hr : 0 ≤ nr ∧ nr ≤ 127) :
    Calls Tryz.prog 53 #[.agg #[.int .i64 k, .bool p, .int .i64 ns, .int .i64 nr]] w fun e w' => e = .returned (.tuple #[.string (strOfNums (ctrlL k ns nr p)), .int .i64 0]) ∧ Below w.heap.size w w' := by
  by_cases h : k = 0 ∨ k = 1
  · exact ctrlput_long k ns nr p w hT h hs hr
  · exact ctrlput_short k ns nr p w hT (by omega)
theorem ctrlL_length (k ns nr : Int) (p : Bool) : (ctrlL k ns nr p).length ≤ 2 := by
  unfold ctrlL
  split
  · simp
  · split
    · simp
    · split <;> simp
theorem ctrlL_range (k ns nr : Int) (p : Bool) (hs : 0 ≤ ns ∧ ns ≤ 127) (hr : 0 ≤ nr ∧ nr ≤ 127) : ∀ x ∈ ctrlL k ns nr p, 0 ≤ x ∧ x ≤ 255 := by
  have hp : b01 p = 0 ∨ b01 p = 1 := by cases p; (exact Or.inl rfl); exact Or.inr rfl
  intro x hx
  unfold ctrlL at hx
  split at hx
  · simp at hx; omega
  · split at hx
    · simp at hx; omega
    · split at hx
      · simp at hx; omega
      · simp at hx; omega

set_option maxHeartbeats 2000000 in
set_option maxRecDepth 100000 in
theorem fput_any (k ns nr : Int) (p : Bool) (info : ByteArray) (w : World) (hT : Tabs w) (hk : k = 0 ∨ k = 6 ∨ k = 1 ∨ k = 4) (hs : 0 ≤ ns ∧ ns ≤ 127) (hr : 0 ≤ nr ∧ nr ≤ 127) (hi : info.size ≤ 260) (hi2 : k = 0 ∨ k = 6 ∨ info.size = 0) :
    Calls Tryz.prog 26 #[.agg #[.int .i64 0, .int .i64 64, .bool true, .int .i64 k, .bool p, .int .i64 ns, .int .i64 nr, .string info], .bool false] w fun e w' => e = .returned (.tuple #[.string (strOfNums (putL k ns nr p (bytesOf info))), .int .i64 0]) ∧ Below w.heap.size w w' := by
  have hbx := at_new w (.cells #[.int .i64 0, .int .i64 64, .bool true, .int .i64 k, .bool p, .int .i64 ns, .int .i64 nr, .string info] 66)
  have hb : Below w.heap.size w (w.alloc (.cells #[.int .i64 0, .int .i64 64, .bool true, .int .i64 k, .bool p, .int .i64 ns, .int .i64 nr, .string info] 66)) := (Below.refl _ _).alloc (Nat.le_refl _) _
  have hT1 := hT.below ((Below.refl _ _).alloc (Nat.le_refl _) (.cells #[.int .i64 0, .int .i64 64, .bool true, .int .i64 k, .bool p, .int .i64 ns, .int .i64 nr, .string info] 66))
  have hmay : mayF k true = true := by rcases hk with rfl | rfl | rfl | rfl <;> rfl
  have hcar : carriesF k (info.size : Int) = true := by
    rcases hk with rfl | rfl | rfl | rfl
    · simp [carriesF]; omega
    · simp [carriesF]; omega
    · rw [show (info.size : Int) = 0 by omega]; decide
    · rw [show (info.size : Int) = 0 by omega]; decide
  have HT1 := Lib.hid hT1
  have HX := Lib.hid hbx
  have HB := Lib.hid hb
  have HK := Lib.hid hk
  have HS := Lib.hid hs
  have HR := Lib.hid hr
  have HMAY := Lib.hid hmay
  have HCAR := Lib.hid hcar
  clear hT hbx hb hT1 hk hs hr hmay hcar hi2
  go_enter Tryz.func26, Tryz.ntmps26
  go_wp2_with fail
  refine (ctrlput_any k ns nr p _ HT1.out HK.out HS.out HR.out).mono ?_
  rintro e w1 ⟨rfl, b1⟩
  have hx1 := (b1.block _ (lt_of_at HX.out)).trans HX.out
  have c0 := at_cell hx1 0
  have c1 := at_cell hx1 1
  have c2 := at_cell hx1 2
  have c3 := at_cell hx1 3
  have c7 := at_cell hx1 7
  simp at c0 c1 c2 c3 c7
  have HB1 := Lib.hid (HB.out.trans (b1.mono HB.out.size))
  have HT2 := Lib.hid (HT1.out.below b1)
  have HX1 := Lib.hid hx1
  clear b1 hx1
  obtain ⟨y, hy⟩ : ∃ y, strOfNums (ctrlL k ns nr p) = y := ⟨_, rfl⟩
  have hys : y.size ≤ 2 := by rw [← hy, strOfNums_size]; exact ctrlL_length _ _ _ _
  rw [hy]
  have HY := Lib.hid hy
  clear hy
  go_wp2_with fail
  refine (may_any _ _ _).mono ?_
  rw [HMAY.out]
  rintro e w2 ⟨rfl, rfl⟩
  go_wp2_with fail
  clear c0 c1 c2 c3 c7
  refine (make_any 0 64 true false _).mono ?_
  rintro e w2 ⟨rfl, b2⟩
  have hx2 := (b2.block _ (lt_of_at HX1.out)).trans HX1.out
  have HX2 := Lib.hid hx2
  have HB2 := Lib.hid (HB1.out.trans (b2.mono HB1.out.size))
  have HT3 := Lib.hid (HT2.out.below b2)
  clear b2 hx2
  go_wp2_with fail
  refine (addrput_64 _).mono ?_
  rintro e w3 ⟨rfl, b3⟩
  have hx3 := (b3.block _ (lt_of_at HX2.out)).trans HX2.out
  have c3 := at_cell hx3 3
  have c7 := at_cell hx3 7
  simp at c3 c7
  have HB3 := Lib.hid (HB2.out.trans (b3.mono HB2.out.size))
  have HT4 := Lib.hid (HT3.out.below b3)
  clear b3 hx3
  obtain ⟨z, hz⟩ : ∃ z, strOfNums [0, 129] = z := ⟨_, rfl⟩
  have hzs : z.size = 2 := by rw [← hz, strOfNums_size]; rfl
  rw [hz]
  have HZ := Lib.hid hz
  clear hz
  go_wp2_with fail
  refine (carries_any _ _ _ HT4.out).mono ?_
  rw [HCAR.out]
  rintro e w4 ⟨rfl, rfl⟩
  go_wp2_with fail
  refine (seal_any _ _ (by simp [ByteArray.size_append]; omega)).mono ?_
  rintro e w5 ⟨rfl, b5⟩
  have HB5 := Lib.hid (HB3.out.trans (b5.mono HB3.out.size))
  have he : bytesOf (z ++ y ++ info) = [0, 129] ++ ctrlL k ns nr p ++ bytesOf info := by
    rw [← HZ.out, ← HY.out, ← str_append]
    conv => lhs; rw [← str_bytes info, ← str_append]
    rw [bytesOf_str]
    intro x hx
    simp only [List.mem_append] at hx
    rcases hx with (hx | hx) | hx
    · simp at hx; omega
    · exact ctrlL_range k ns nr p HS.out HR.out x hx
    · exact bytes_range info x hx
  have HE := Lib.hid he
  clear b5 he
  go_wp2
  go_ret2
  exact ⟨by unfold putL; rw [← HE.out]; rfl, HB5.out⟩
end Go.Proofs.YtlfcfmdblmedcaaGreatDoor.Mine
