/- The contracts of fcs.Check and bits.Pack, Field. -/
import Derived.Test.YtlfcfmdblmedcaaGreatDoorTFcs
import Derived.Lib.Strings
namespace Go.Proofs.YtlfcfmdblmedcaaGreatDoor.Mine
open Go.RowKit Go.Proofs.YtlfcfmdblmedcaaGreatDoorW.PrintWords
attribute [local go_sem] max_int min_int max_of_two min_of_two

/-- The octets ahead of a check sequence that is right; else an error. -/
def checkL (l : List Int) : List Int × Int := if l.length < 2 then ([], 3) else if sealL (l.take (l.length - 2)) = l then (l.take (l.length - 2), 0) else ([], 6)

theorem cut_str (s : ByteArray) (m : Nat) : s.extract 0 m = strOfNums ((bytesOf s).take m) := by
  apply ByteArray.ext
  apply Array.toList_inj.1
  rw [strOfNums_data, Lib.extract_data]
  unfold bytesOf
  rw [List.map_take, List.map_map]
  have e : List.map ((fun n : Int => UInt8.ofNat n.toNat) ∘ fun b : UInt8 => (b.toNat : Int)) s.data.toList = s.data.toList := by
    conv => rhs; rw [← List.map_id s.data.toList]
    apply List.map_congr_left
    intro x _
    simp
  rw [e]
  simp
theorem drop_str (s : ByteArray) (m : Nat) : s.extract m s.size = strOfNums ((bytesOf s).drop m) := by
  apply ByteArray.ext
  apply Array.toList_inj.1
  rw [strOfNums_data, Lib.extract_data]
  unfold bytesOf
  rw [List.map_drop]
  rw [List.map_map]
  have e : List.map ((fun n : Int => UInt8.ofNat n.toNat) ∘ fun b : UInt8 => (b.toNat : Int)) s.data.toList = s.data.toList := by
    conv => rhs; rw [← List.map_id s.data.toList]
    apply List.map_congr_left
    intro x _
    simp
  rw [e, List.take_of_length_le]
  rw [List.length_drop, data_length]
  omega
theorem str_ne {a b : ByteArray} (h : a ≠ b) : (a.toList == b.toList) = false := by
  apply beq_eq_false_iff_ne.2
  intro e
  apply h
  rw [Lib.toList_data, Lib.toList_data] at e
  exact ByteArray.ext (Array.toList_inj.1 e)
theorem bytes_range (s : ByteArray) : ∀ x ∈ bytesOf s, 0 ≤ x ∧ x ≤ 255 := by
  intro x hx
  unfold bytesOf at hx
  simp at hx
  obtain ⟨b, -, rfl⟩ := hx
  have := b.toNat_lt
  omega
theorem bytesOf_inj {a b : ByteArray} (h : bytesOf a = bytesOf b) : a = b := by rw [← str_bytes a, ← str_bytes b, h]

set_option maxHeartbeats 1000000 in
theorem check_any (s : ByteArray) (w : World) (hs : s.size ≤ 10000000) :
    Calls Tryz.prog 61 #[.string s] w fun e w' => e = .returned (.tuple #[.string (strOfNums (checkL (bytesOf s)).1), .int .i64 (checkL (bytesOf s)).2]) ∧ Below w.heap.size w w' := by
  by_cases h2 : s.size < 2
  · have e : checkL (bytesOf s) = ([], 3) := by unfold checkL; rw [if_pos (by rw [bytesOf_length]; exact h2)]
    rw [e]
    clear e
    go_enter Tryz.func61, Tryz.ntmps61
    go_wp2
    go_ret2
    exact ⟨rfl, Below.refl _ _⟩
  · have hcut := cut_str s (s.size - 2)
    have hbr : ∀ x ∈ (bytesOf s).take (s.size - 2), 0 ≤ x ∧ x ≤ 255 := fun x hx => bytes_range s x (List.mem_of_mem_take hx)
    have hbb := bytesOf_str _ hbr
    obtain ⟨b, hb⟩ : ∃ b, strOfNums ((bytesOf s).take (s.size - 2)) = b := ⟨_, rfl⟩
    rw [hb] at hcut hbb
    have hbs : b.size ≤ 10000000 := by
      have := bytesOf_length b
      rw [hbb, List.length_take, bytesOf_length] at this
      omega
    have HS := Lib.hid (fun w => seal_any b w hbs)
    have HB := Lib.hid hb
    have HBB := Lib.hid hbb
    clear hbr hbb hb hbs
    by_cases hq : sealL ((bytesOf s).take (s.size - 2)) = bytesOf s
    · have e : checkL (bytesOf s) = ((bytesOf s).take (s.size - 2), 0) := by unfold checkL; rw [if_neg (by rw [bytesOf_length]; exact h2), bytesOf_length, if_pos hq]
      rw [e]
      simp only
      rw [HB.out]
      have hx : strOfNums (sealL (bytesOf b)) = s := by rw [HBB.out, hq, str_bytes]
      have HX := Lib.hid hx
      clear e hq hx
      go_enter Tryz.func61, Tryz.ntmps61
      go_wp2_with fail
      refine (HS.out _).mono ?_
      rw [HX.out]
      rintro e w' ⟨rfl, h1⟩
      have H1 := Lib.hid h1
      clear h1
      go_wp2
      go_ret2
      exact ⟨rfl, H1.out⟩
    · have e : checkL (bytesOf s) = ([], 6) := by unfold checkL; rw [if_neg (by rw [bytesOf_length]; exact h2), bytesOf_length, if_neg hq]
      rw [e]
      have hx : strOfNums (sealL (bytesOf b)) ≠ s := by
        intro hx
        apply hq
        rw [← HBB.out]
        rw [← hx]
        rw [bytesOf_str]
        intro y hy
        unfold sealL at hy
        simp only [List.mem_append, List.mem_cons, List.not_mem_nil, or_false] at hy
        have hr := sumF_range (bytesOf b)
        rcases hy with hy | rfl | rfl
        · exact bytes_range b y hy
        · omega
        · omega
      obtain ⟨y, hy⟩ : ∃ y, strOfNums (sealL (bytesOf b)) = y := ⟨_, rfl⟩
      rw [hy] at hx
      have hne := str_ne hx
      have HY := Lib.hid hy
      clear e hq hx hy
      go_enter Tryz.func61, Tryz.ntmps61
      go_wp2_with fail
      refine (HS.out _).mono ?_
      rw [HY.out]
      rintro e w' ⟨rfl, h1⟩
      have H1 := Lib.hid h1
      clear h1
      go_wp2
      go_ret2
      exact ⟨rfl, H1.out⟩
end Go.Proofs.YtlfcfmdblmedcaaGreatDoor.Mine
