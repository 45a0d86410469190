/- The contracts of bits.Good and bits.Octets, at bits. -/
import Derived.Test.YtlfcfmdblmedcaaGreatDoorTCheck
import Derived.RegionTactic
import Derived.BigRegion
namespace Go.Proofs.YtlfcfmdblmedcaaGreatDoor.Mine
open Go.RowKit Go.Proofs.YtlfcfmdblmedcaaGreatDoorW.PrintWords
attribute [local go_sem] max_int min_int max_of_two min_of_two

/-- Letters 0 and 1 alone. -/
def IsBits (l : List Int) : Prop := ∀ x ∈ l, x = 48 ∨ x = 49
theorem dw_nil {α : Type} (p : α → Bool) : ∀ l : List α, (∀ x ∈ l, p x = true) → l.dropWhile p = []
  | [], _ => rfl
  | x :: l, h => by
    rw [List.dropWhile_cons, if_pos (h x (by simp))]
    exact dw_nil p l (fun y hy => h y (by simp [hy]))
theorem trim_bits (s : ByteArray) (h : IsBits (bytesOf s)) : Lib.trimS s.data.toList [48, 49] = [] := by
  have hall : ∀ x ∈ s.data.toList, [48, 49].contains x = true := by
    intro x hx
    have h1 := h x.toNat (by unfold bytesOf; exact List.mem_map_of_mem hx)
    have h2 : x.toNat = 48 ∨ x.toNat = 49 := by omega
    rcases h2 with h2 | h2
    · have : x = 48 := by apply UInt8.toNat.inj; rw [h2]; rfl
      subst this; rfl
    · have : x = 49 := by apply UInt8.toNat.inj; rw [h2]; rfl
      subst this; rfl
  have e : Lib.trimRightS s.data.toList [48, 49] = [] := by
    unfold Lib.trimRightS
    rw [dw_nil _ _ (fun x hx => hall x (List.mem_reverse.1 hx))]
    rfl
  unfold Lib.trimS
  rw [e]
  rfl

set_option maxHeartbeats 1000000 in
theorem good_any (s : ByteArray) (w : World) (hs : s.size ≤ 10000000) (hb : IsBits (bytesOf s)) :
    Calls Tryz.prog 110 #[.string s] w fun e w' => e = .returned (.bool true) ∧ Below w.heap.size w w' := by
  have hcon := Tryz.strings_Trim_laid s ⟨#[48, 49]⟩ w (by omega) (by decide) (Go.Proofs.ascii_of_all (by decide))
  have e : (⟨(Lib.trimS s.data.toList (⟨#[48, 49]⟩ : ByteArray).data.toList).toArray⟩ : ByteArray) = ⟨#[]⟩ := by
    show (⟨(Lib.trimS s.data.toList [48, 49]).toArray⟩ : ByteArray) = ⟨#[]⟩
    rw [trim_bits s hb]
  rw [e] at hcon
  have HC := Lib.hid hcon
  clear hcon e
  go_enter Tryz.func110, Tryz.ntmps110
  go_wp2_with fail
  refine HC.out.mono ?_
  rintro e w' ⟨rfl, hB⟩
  have HB := Lib.hid hB
  clear hB
  go_wp2
  go_ret
  exact ⟨rfl, HB.out⟩

/-- The first m bits of octet j, as a number. -/
def pval (l : List Int) (j : Nat) : Nat → Int
  | 0 => 0
  | m + 1 => pval l j m + l.getD (8 * j + m) 0 % 2 * 2 ^ m
/-- The octets of bits, k of which have been taken in. -/
def octAt (l : List Int) (n k : Nat) : List Int := (List.range n).map fun j => pval l j (min 8 (k - 8 * j))
def octsL (l : List Int) : List Int := octAt l (l.length / 8) l.length
theorem pval_range (l : List Int) (j : Nat) : ∀ m, 0 ≤ pval l j m ∧ pval l j m < 2 ^ m
  | 0 => by simp [pval]
  | m + 1 => by
    obtain ⟨h0, h1⟩ := pval_range l j m
    have hp : (0 : Int) < 2 ^ m := Int.pow_pos (by decide)
    have h2 : l.getD (8 * j + m) 0 % 2 = 0 ∨ l.getD (8 * j + m) 0 % 2 = 1 := by omega
    have e : (2 : Int) ^ (m + 1) = 2 ^ m * 2 := Int.pow_succ ..
    unfold pval
    rw [e]
    rcases h2 with h2 | h2 <;> rw [h2] <;> omega
theorem octAt_length (l : List Int) (n k : Nat) : (octAt l n k).length = n := by simp [octAt]
theorem octAt_get (l : List Int) (n k j : Nat) (h : j < n) : (octAt l n k)[j]? = some (pval l j (min 8 (k - 8 * j))) := by simp [octAt, h]
theorem octAt_zero (l : List Int) (n : Nat) : octAt l n 0 = List.replicate n 0 := by
  apply List.ext_getElem
  · simp [octAt]
  · intro i h1 h2
    simp [octAt, pval]
theorem octAt_step (l : List Int) (n k : Nat) : octAt l n (k + 1) = (octAt l n k).set (k / 8) (pval l (k / 8) (k % 8) + l.getD k 0 % 2 * 2 ^ (k % 8)) := by
  apply List.ext_getElem
  · simp [octAt]
  · intro i h1 h2
    rw [List.getElem_set]
    simp only [octAt, List.getElem_map, List.getElem_range]
    by_cases hi : k / 8 = i
    · subst hi
      rw [if_pos rfl]
      have e1 : min 8 (k + 1 - 8 * (k / 8)) = k % 8 + 1 := by omega
      have e2 : 8 * (k / 8) + k % 8 = k := by omega
      rw [e1]
      show pval l (k / 8) (k % 8) + l.getD (8 * (k / 8) + k % 8) 0 % 2 * 2 ^ (k % 8) = _
      rw [e2]
    · rw [if_neg hi]
      congr 1
      omega
theorem made_zero (m : Nat) : madeCells #[Value.int .u8 0] m = (nums .u8 (List.replicate m 0)).toArray := by
  apply Array.toList_inj.1
  apply List.ext_getElem
  · simp [nums, madeCells]
  · intro i h1 h2
    simp [nums, madeCells, Nat.mod_one]
theorem nums_set (xs : List Int) (i : Nat) (x : Int) : (nums .u8 xs).toArray.setIfInBounds i (.int .u8 x) = (nums .u8 (xs.set i x)).toArray := by
  simp [nums, List.map_set]

theorem or8_fin : ∀ (m : Fin 8) (v : Fin 128) (b : Fin 2), v.val < 2 ^ m.val → bits .or .u8 (v.val : Int) ((b.val : Int) * 2 ^ m.val % 256) = (v.val : Int) + (b.val : Int) * 2 ^ m.val := by decide +kernel
theorem or8 (m : Nat) (v b : Int) (hm : m < 8) (h0 : 0 ≤ v) (h1 : v < 2 ^ m) (hb : b = 0 ∨ b = 1) : bits .or .u8 v (b * 2 ^ m % 256) = v + b * 2 ^ m := by
  obtain ⟨n, rfl⟩ := Int.eq_ofNat_of_zero_le h0
  have h2 : n < 2 ^ m := by exact_mod_cast h1
  have h3 : n < 128 := Nat.lt_of_lt_of_le h2 (by
    have : 2 ^ m ≤ 2 ^ 7 := Nat.pow_le_pow_right (by decide) (by omega)
    exact this)
  rcases hb with rfl | rfl
  · exact or8_fin ⟨m, hm⟩ ⟨n, h3⟩ 0 h2
  · exact or8_fin ⟨m, hm⟩ ⟨n, h3⟩ 1 h2

def OctInv (w : World) (l : List Int) (r n : Nat) (i : Value) (wr : World) : Prop :=
  ∃ k : Nat, i = .int .i64 k ∧ k ≤ l.length ∧ wr.heap[r]? = some (.cells (nums .u8 (octAt l n k)).toArray 5 (0, 0)) ∧ Below w.heap.size w wr

set_option maxHeartbeats 2000000 in
theorem octets_any (s : ByteArray) (w : World) (hs : s.size ≤ 10000000) (hb : IsBits (bytesOf s)) (h8 : s.size % 8 = 0) :
    Calls Tryz.prog 100 #[.string s] w fun e w' => e = .returned (.tuple #[.string (strOfNums (octsL (bytesOf s))), .int .i64 0]) ∧ Below w.heap.size w w' := by
  obtain ⟨n, hn⟩ : ∃ n, s.size / 8 = n := ⟨_, rfl⟩
  have hsz : s.size = 8 * n := by omega
  have HG := Lib.hid (fun w => good_any s w hs hb)
  have hmk := print_make 75 5 .u8 1 Tryz.underlying75 (by kernel_rfl) (by decide) n (by omega)
  have hdv : (s.size : Int) / 8 = n := by omega
  have hmd : (s.size : Int) % 8 = 0 := by omega
  have HZ := Lib.hid hsz
  clear hsz h8 hn
  go_enter Tryz.func100, Tryz.ntmps100
  go_wp2_with fail
  refine (HG.out _).mono ?_
  rintro e w1 ⟨rfl, h1⟩
  have H1 := Lib.hid h1
  clear h1
  go_wp2_with fail
  have hnew : (w1.alloc (.cells (madeCells #[Value.int .u8 0] n) 5)).heap[w1.heap.size]? = some (.cells (nums .u8 (octAt (bytesOf s) n 0)).toArray 5 (0, 0)) := by
    rw [octAt_zero, ← made_zero]; exact at_new _ _
  have hB := H1.out.alloc H1.out.size (.cells (madeCells #[Value.int .u8 0] n) 5)
  generalize w1.alloc (.cells (madeCells #[Value.int .u8 0] n) 5) = w2 at hnew hB ⊢
  have hrb := H1.out.size
  generalize w1.heap.size = r at hnew hrb ⊢
  clear H1 hmk hdv hmd
  have HN := Lib.hid hnew
  have HB := Lib.hid hB
  have HL := Lib.hid (bytesOf_length s)
  have HRB := Lib.hid (show w.heap.size ≤ r from hrb)
  clear hnew hB hrb
  go_loopw [21] (fun i wr => OctInv w (bytesOf s) r n i wr) (fun i _ => s.size - (intOf i).toNat)
  case atStart => exact ⟨0, rfl, Nat.zero_le _, HN.out, HB.out⟩
  case round =>
    clear HN HB
    obtain ⟨k, rfl, hk, hr, hB⟩ := hrel
    rw [HL.out] at hk
    by_cases hlt : k < s.size
    · have hx := bt_nat s k
      have hxr := bt_range s k
      obtain ⟨x, hxx⟩ : ∃ x, bt s k = x := ⟨_, rfl⟩
      have hxl : (bytesOf s).getD k 0 = x := by rw [← hxx, ← rd_bytesOf]; rfl
      rw [hxx] at hx hxr
      have hst := octAt_step (bytesOf s) n k
      rw [hxl] at hst
      have hkn : k / 8 < n := by have := HZ.out; omega
      have hpr := pval_range (bytesOf s) (k / 8) (k % 8)
      have c0 := at_cell hr (k / 8)
      rw [show (nums .u8 (octAt (bytesOf s) n k)).toArray[k / 8]? = some (.int .u8 (pval (bytesOf s) (k / 8) (k % 8))) by
        simp [nums, octAt_get _ _ _ _ hkn]; congr 1; omega] at c0
      have f0 := at_frozen hr (k / 8)
      obtain ⟨v, hv⟩ : ∃ v, pval (bytesOf s) (k / 8) (k % 8) = v := ⟨_, rfl⟩
      rw [hv] at hst hpr c0
      have hd1 : (k : Int).tdiv 8 = ((k / 8 : Nat) : Int) := by rw [Int.tdiv_eq_ediv_of_nonneg (by omega)]; omega
      have hm1 : (k : Int).tmod 8 = ((k % 8 : Nat) : Int) := by rw [Int.tmod_eq_emod_of_nonneg (by omega)]; omega
      have hj0 : (0 : Int) ≤ ((k / 8 : Nat) : Int) := by omega
      have hj1 : ((k / 8 : Nat) : Int) < (n : Int) := by omega
      have hand := u8_and1 x (by omega) (by omega)
      have HR := Lib.hid hr
      have HBB := Lib.hid hB
      have HST := Lib.hid hst
      have HV := Lib.hid hpr
      clear hr hB hst hpr hxx hxl hv
      go_wp2_with fail
      go_region
      rw [or8 (k % 8) v (x % 2) (by omega) HV.out.1 HV.out.2 (by omega)]
      have hr2 : (wr.setCell ⟨r, k / 8, none⟩ (.int .u8 (v + x % 2 * 2 ^ (k % 8)))).heap[r]? = some (.cells (nums .u8 (octAt (bytesOf s) n (k + 1))).toArray 5 (0, 0)) := by
        rw [at_set HR.out, nums_set, HST.out]
      have hI : OctInv w (bytesOf s) r n (.int .i64 ((k : Int) + 1)) (wr.setCell ⟨r, k / 8, none⟩ (.int .u8 (v + x % 2 * 2 ^ (k % 8)))).drew :=
        ⟨k + 1, by go_num, by rw [HL.out]; omega, hr2, (HBB.out.setCell HRB.out _).drew⟩
      have HI := Lib.hid hI
      clear hI hr2
      go_wp2
      go_roundw
      case rel => exact HI.out
      case measure => simp [intOf]; omega
    · obtain rfl : k = s.size := by omega
      have hl : (octAt (bytesOf s) n s.size).length = n := octAt_length _ _ _
      have he : octAt (bytesOf s) n s.size = octsL (bytesOf s) := by
        unfold octsL
        rw [HL.out]
        have := HZ.out
        rw [show s.size / 8 = n by omega]
      rw [he] at hr hl
      have hcv := run_convert_bytes_arg (P := Tryz.prog) (w := wr) 75 5 (by kernel_rfl) (by kernel_rfl) r 0 n n (octsL (bytesOf s)) hl (fun i hi => by
        rw [at_cell hr]
        simp [nums, List.getD_eq_getElem?_getD, List.getElem?_eq_getElem (show i < (octsL (bytesOf s)).length by omega)]) 9 (by kernel_rfl)
      have HBB := Lib.hid hB
      clear hr hl he hB
      go_wp2
      go_ret2
      exact ⟨rfl, HBB.out⟩
end Go.Proofs.YtlfcfmdblmedcaaGreatDoor.Mine
