/- The contracts of fcs.Step, Sum, Seal, Check. -/
import Derived.Test.YtlfcfmdblmedcaaGreatDoorTStuff
namespace Go.Proofs.YtlfcfmdblmedcaaGreatDoor.Mine
open Go.RowKit Go.Proofs.YtlfcfmdblmedcaaGreatDoorW.PrintWords
attribute [local go_sem] max_int min_int max_of_two min_of_two

theorem wrap_u16 (n : Int) : IntKind.u16.wrap n = n % 65536 := by simp [IntKind.wrap, IntKind.bits, IntKind.signed]
theorem xor16_range (a b : Int) : 0 ≤ bits .xor .u16 a b ∧ bits .xor .u16 a b ≤ 65535 := by
  unfold bits
  simp only
  rw [wrap_u16]
  omega
/-- The register, eight times on. -/
def step1 (r : Int) : Int := bits .xor .u16 (r / 2) (IntKind.u16.wrap (bits .and .u16 r 1 * 33800))
def stepN : Nat → Int → Int
  | 0, r => r
  | n + 1, r => stepN n (step1 r)
def stepF (r b : Int) : Int := stepN 8 (bits .xor .u16 r (IntKind.u16.wrap b))
theorem stepN_range (n : Nat) : ∀ r : Int, 0 ≤ r ∧ r ≤ 65535 → 0 ≤ stepN n r ∧ stepN n r ≤ 65535 := by
  induction n with
  | zero => intro r h; exact h
  | succ n ih => intro r _; exact ih _ (xor16_range _ _)
theorem stepF_range (r b : Int) : 0 ≤ stepF r b ∧ stepF r b ≤ 65535 := stepN_range 8 _ (xor16_range _ _)

set_option maxHeartbeats 1000000 in
theorem step_any (a b : Int) (w : World) :
    Calls Tryz.prog 99 #[.int .u16 a, .int .u8 b] w fun e w' => e = .returned (.int .u16 (stepF a b)) ∧ w = w' := by
  obtain ⟨z, hz⟩ : ∃ z, stepF a b = z := ⟨_, rfl⟩
  rw [hz]
  have HZ := Lib.hid hz
  clear hz
  go_enter Tryz.func99, Tryz.ntmps99
  go_wp2_with fail
  go_loopw [0, 10] (fun v j wr => ∃ (n : Nat) (r : Int), v = .int .u16 r ∧ j = .int .i64 n ∧ n ≤ 8 ∧ stepN (8 - n) r = z ∧ w = wr) (fun _ j _ => 8 - (intOf j).toNat)
  case atStart => exact ⟨0, _, rfl, rfl, by omega, HZ.out, rfl⟩
  case round =>
    obtain ⟨n, r, rfl, rfl, hn, hr, rfl⟩ := hrel
    by_cases hlt : n < 8
    · have e : 8 - n = (8 - (n + 1)) + 1 := by omega
      rw [e] at hr
      have hr2 : stepN (8 - (n + 1)) (step1 r) = z := hr
      have HR := Lib.hid hr2
      clear hr hr2 e
      go_wp2
      go_roundw
      case rel => exact ⟨n + 1, _, rfl, by go_num, by omega, HR.out, trivial⟩
      case measure => simp [intOf]; omega
    · obtain rfl : n = 8 := by omega
      have hr2 : r = z := hr
      subst hr2
      clear hr
      go_wp2
      go_ret
      exact ⟨rfl, rfl⟩

def sumGo : Int → List Int → Int
  | r, [] => r
  | r, x :: l => sumGo (stepF r x) l
/-- The check sequence. -/
def sumF (l : List Int) : Int := 65535 - sumGo 65535 l
theorem sumGo_range : ∀ (l : List Int) (r : Int), 0 ≤ r ∧ r ≤ 65535 → 0 ≤ sumGo r l ∧ sumGo r l ≤ 65535 := by
  intro l
  induction l with
  | nil => intro r h; exact h
  | cons x l ih => intro r _; exact ih _ (stepF_range _ _)
theorem sumF_range (l : List Int) : 0 ≤ sumF l ∧ sumF l ≤ 65535 := by
  have := sumGo_range l 65535 (by omega)
  unfold sumF
  omega
theorem not16 (r : Int) (h0 : 0 ≤ r) (h1 : r ≤ 65535) : bits .xor .u16 65535 r = 65535 - r := by
  obtain ⟨n, rfl⟩ := Int.eq_ofNat_of_zero_le h0
  have hn : n < 65536 := by omega
  unfold bits
  simp only
  rw [wrap_u16]
  have e1 : BitVec.ofInt 16 (65535 : Int) = BitVec.allOnes 16 := by decide
  have e2 : BitVec.ofInt 16 (n : Int) = BitVec.ofNat 16 n := by simp
  show ((BitVec.ofInt 16 65535 ^^^ BitVec.ofInt 16 (n : Int)).toNat : Int) % 65536 = 65535 - n
  rw [e1, e2, BitVec.allOnes_xor, BitVec.toNat_not, BitVec.toNat_ofNat]
  have : n % 2 ^ 16 = n := Nat.mod_eq_of_lt (by omega)
  rw [this]
  omega

set_option maxHeartbeats 1000000 in
theorem sum_any (s : ByteArray) (w : World) (hs : s.size ≤ 10000000) :
    Calls Tryz.prog 84 #[.string s] w fun e w' => e = .returned (.int .u16 (sumF (bytesOf s))) ∧ w = w' := by
  obtain ⟨z, hz⟩ : ∃ z, sumGo 65535 (bytesOf s) = z := ⟨_, rfl⟩
  have hzr := sumGo_range (bytesOf s) 65535 (by omega)
  have HF : sumF (bytesOf s) = 65535 - z := by unfold sumF; rw [hz]
  rw [hz] at hzr
  rw [HF]
  have HN := Lib.hid (not16 z hzr.1 hzr.2)
  have HZ := Lib.hid hz
  have HZR := Lib.hid hzr
  clear hz HF hzr
  go_enter Tryz.func84, Tryz.ntmps84
  go_wp2_with fail
  go_loopw [7, 3] (fun i v wr => ∃ (k : Nat) (r : Int), i = .int .i64 k ∧ v = .int .u16 r ∧ k ≤ s.size ∧ sumGo r ((bytesOf s).drop k) = z ∧ w = wr) (fun i _ _ => s.size - (intOf i).toNat)
  case atStart => exact ⟨0, 65535, rfl, rfl, Nat.zero_le _, by simpa using HZ.out, rfl⟩
  case round =>
    obtain ⟨k, r, rfl, rfl, hk, hr, rfl⟩ := hrel
    by_cases hlt : k < s.size
    · have hx := bt_nat s k
      rw [bytes_drop s k hlt] at hr
      obtain ⟨x, hxx⟩ : ∃ x, bt s k = x := ⟨_, rfl⟩
      rw [hxx] at hx hr
      have hr2 : sumGo (stepF r x) ((bytesOf s).drop (k + 1)) = z := hr
      have HR := Lib.hid hr2
      clear hr hr2 hxx
      go_wp2_with fail
      refine (step_any _ _ _).mono ?_
      rintro e w' ⟨rfl, rfl⟩
      go_wp2
      go_roundw
      case rel => exact ⟨k + 1, _, by go_num, rfl, by omega, HR.out, trivial⟩
      case measure => simp [intOf]; omega
    · obtain rfl : k = s.size := by omega
      rw [bytes_end] at hr
      have hr2 : r = z := hr
      subst hr2
      clear hr
      go_wp2
      go_ret
      exact ⟨ret_int HN.out, rfl⟩

/-- Octets with their check sequence behind. -/
def sealL (l : List Int) : List Int := l ++ [sumF l % 256, sumF l / 256]
theorem str_bytes (s : ByteArray) : strOfNums (bytesOf s) = s := by
  apply ByteArray.ext
  apply Array.toList_inj.1
  rw [strOfNums_data]
  unfold bytesOf
  rw [List.map_map]
  conv => rhs; rw [← List.map_id s.data.toList]
  apply List.map_congr_left
  intro x _
  simp
theorem bytes2 (w : World) (a b : Int) : (convert 75 9 (.slice (some ⟨w.heap.size, 0, none⟩) 2 2)).run Tryz.prog (w.alloc (.cells #[.int .u8 a, .int .u8 b] 5)) = .ok (.string (strOfNums [a, b])) (w.alloc (.cells #[.int .u8 a, .int .u8 b] 5)) :=
  run_convert_bytes_arg _ 75 5 (by kernel_rfl) (by kernel_rfl) w.heap.size 0 2 2 [a, b] rfl (fun i hi => by
    rw [at_cell (at_new _ _)]
    rcases i with _ | _ | i
    · rfl
    · rfl
    · omega) 9 (by kernel_rfl)

set_option maxHeartbeats 1000000 in
theorem seal_any (s : ByteArray) (w : World) (hs : s.size ≤ 10000000) :
    Calls Tryz.prog 56 #[.string s] w fun e w' => e = .returned (.string (strOfNums (sealL (bytesOf s)))) ∧ Below w.heap.size w w' := by
  have hr := sumF_range (bytesOf s)
  have he : strOfNums (sealL (bytesOf s)) = s ++ strOfNums [sumF (bytesOf s) % 256, sumF (bytesOf s) / 256] := by unfold sealL; rw [str_append, str_bytes]
  rw [he]
  clear he
  obtain ⟨n, hn⟩ : ∃ n, sumF (bytesOf s) = n := ⟨_, rfl⟩
  have HS := Lib.hid (sum_any s w hs)
  rw [hn] at hr HS ⊢
  clear hn
  have hcv := bytes2 w (n % 256) (n / 256)
  have hz : (strOfNums [n % 256, n / 256]).size = 2 := strOfNums_size _
  obtain ⟨y, hy⟩ : ∃ y, strOfNums [n % 256, n / 256] = y := ⟨_, rfl⟩
  rw [hy] at hcv hz ⊢
  clear hy
  go_enter Tryz.func56, Tryz.ntmps56
  go_wp2_with fail
  refine HS.out.mono ?_
  rintro e w' ⟨rfl, rfl⟩
  go_wp2
  go_ret
  exact ⟨rfl, (Below.refl _ _).alloc (Nat.le_refl _) _⟩
end Go.Proofs.YtlfcfmdblmedcaaGreatDoor.Mine
