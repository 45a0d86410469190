/- The contracts of bits.Of, hdlc.Stuff, hdlc.Encode: what they compute, as plain functions on lists of numbers. -/
import Derived.Test.YtlfcfmdblmedcaaGreatDoorBase
import Derived.Test.YtlfcfmdblmedcaaGreatDoorShelf
import Derived.Test.YtlfcfmdblmedcaaGreatDoorWWords
namespace Go.Proofs.YtlfcfmdblmedcaaGreatDoor.Mine
open Go.RowKit Go.Proofs.YtlfcfmdblmedcaaGreatDoorW.PrintWords
attribute [local go_sem] max_int min_int max_of_two min_of_two

/-- An octet's bits, the lowest first, as the letters 0 and 1. -/
def bit8 (x : Int) (k : Nat) : Int := 48 + x / 2 ^ k % 2
def of8 (x : Int) : List Int := (List.range 8).map (bit8 x)
def ofBits (l : List Int) : List Int := l.flatMap of8

theorem of8_length (x : Int) : (of8 x).length = 8 := by simp [of8]
theorem of8_take (x : Int) (n : Nat) (h : n < 8) : (of8 x).take (n + 1) = (of8 x).take n ++ [bit8 x n] := by
  have hl : n < (of8 x).length := by rw [of8_length]; exact h
  rw [List.take_succ_eq_append_getElem hl]
  simp [of8]
theorem u8_and1 (x : Int) (h0 : 0 ≤ x) (h1 : x < 256) : bits .and .u8 x 1 = x % 2 := bits_mask .u8 8 (by decide) wraps_u8 1 (by decide) x h0 h1
theorem bytes_drop (s : ByteArray) (k : Nat) (h : k < s.size) : (bytesOf s).drop k = bt s k :: (bytesOf s).drop (k + 1) := by
  have hl : k < (bytesOf s).length := by rw [bytesOf_length]; exact h
  rw [List.drop_eq_getElem_cons hl]
  congr 1
  have := rd_bytesOf s k
  unfold rd at this
  rw [← this]
  simp [List.getD_eq_getElem?_getD, List.getElem?_eq_getElem hl]
theorem bytes_end (s : ByteArray) : (bytesOf s).drop s.size = [] := by rw [← bytesOf_length]; exact List.drop_length
theorem bt_nat (s : ByteArray) (k : Nat) : ∀ h : k < s.size, ((s[k]'h).toNat : Int) = bt s k := fun h => bt_at s k h

/-- The builder of a call's own: block B, its bytes xs. -/
def Bld (B : Nat) (w : World) (xs : List Int) (wr : World) : Prop := Lib.IsBuilder 149 5 B B (nums .u8 xs) wr ∧ Below B w wr ∧ B ≤ wr.heap.size
theorem Bld.start (w : World) : Bld w.heap.size w [] (w.alloc (.cells #[.pointer none, .slice none 0 0] 149)) :=
  ⟨Lib.fresh_isBuilder 149 5 w, (Below.refl _ _).alloc (Nat.le_refl _) _, by simp⟩
theorem write_any {B : Nat} {w : World} {xs : List Int} (c : Int) (wr : World) (h : Bld B w xs wr) (hl : xs.length + 1 ≤ 140737488355328) :
    Calls Tryz.prog 86 #[.pointer (some ⟨B, 0, none⟩), .int .u8 c] wr fun e w' => e = .returned .nilIface ∧ Bld B w (xs ++ [c]) w' := by
  refine (Tryz.Builder_WriteByte B B (nums .u8 xs) c wr h.1 (by rw [nums_length]; exact hl) h.2.2).mono ?_
  rintro e w' ⟨rfl, h1, h2⟩
  refine ⟨rfl, Or.inr ?_, h.2.1.trans h2, Nat.le_trans h.2.2 h2.size⟩
  rw [nums_append]
  exact h1
theorem string_any {B : Nat} {w : World} {xs : List Int} (wr : World) (h : Bld B w xs wr) (hr : ∀ x ∈ xs, 0 ≤ x ∧ x ≤ 255) :
    Calls Tryz.prog 87 #[.pointer (some ⟨B, 0, none⟩)] wr fun e w' => e = .returned (.string (strOfNums xs)) ∧ Below B w w' := by
  have e : Lib.byteCells (xs.map fun n => UInt8.ofNat n.toNat) = nums .u8 xs := by
    unfold Lib.byteCells nums
    rw [List.map_map]
    apply List.map_congr_left
    intro x hx
    obtain ⟨h0, h1⟩ := hr x hx
    simp only [Function.comp]
    congr 1
    rw [UInt8.toNat_ofNat_of_lt' (Nat.lt_of_le_of_lt (show x.toNat ≤ 255 by omega) (by decide))]
    omega
  refine (Tryz.Builder_String_any B B (xs.map fun n => UInt8.ofNat n.toNat) wr (by rw [e]; exact h.1) h.2.2).mono ?_
  rintro e w' ⟨rfl, h2⟩
  exact ⟨rfl, h.2.1.trans h2⟩

def OfInv (w : World) (s : ByteArray) (i : Value) (wr : World) : Prop :=
  ∃ (k : Nat) (L : List Int), i = .int .i64 k ∧ k ≤ s.size ∧ L ++ ofBits ((bytesOf s).drop k) = ofBits (bytesOf s) ∧ L.length = 8 * k ∧ (∀ x ∈ L, 0 ≤ x ∧ x ≤ 255) ∧ Bld w.heap.size w L wr
def OfIn (w : World) (L : List Int) (x : Int) (j : Value) (wr : World) : Prop :=
  ∃ n : Nat, j = .int .i64 n ∧ n ≤ 8 ∧ Bld w.heap.size w (L ++ (of8 x).take n) wr
theorem of8_range (x : Int) : ∀ y ∈ of8 x, 0 ≤ y ∧ y ≤ 255 := by
  intro y hy
  simp [of8, bit8] at hy
  obtain ⟨n, hn, rfl⟩ := hy
  omega

set_option maxHeartbeats 1000000 in
theorem of_any (s : ByteArray) (w : World) (hs : s.size ≤ 1000000) :
    Calls Tryz.prog 60 #[.string s] w fun e w' => e = .returned (.string (strOfNums (ofBits (bytesOf s)))) ∧ Below w.heap.size w w' := by
  have H0 := Lib.hid (Bld.start w)
  go_enter Tryz.func60, Tryz.ntmps60
  go_wp2_with fail
  go_loopw [8] (fun i wr => OfInv w s i wr) (fun i _ => s.size - (intOf i).toNat)
  case atStart => exact ⟨0, [], rfl, Nat.zero_le _, by simp, rfl, by simp, H0.out⟩
  case round =>
    clear H0
    obtain ⟨k, L, rfl, hk, hL, hlen, hr, hb⟩ := hrel
    by_cases hlt : k < s.size
    · have hx := bt_nat s k
      have hxr := bt_range s k
      have hdr := bytes_drop s k hlt
      obtain ⟨x, hxx⟩ : ∃ x, bt s k = x := ⟨_, rfl⟩
      rw [hxx] at hx hxr hdr
      have H := Lib.hid hb
      have HL := Lib.hid hL
      have HN := Lib.hid hlen
      have HR := Lib.hid hr
      have HD := Lib.hid hdr
      clear hb hL hlen hr hdr hxx
      go_wp2_with fail
      go_loopw [11] (fun j wr => OfIn w L x j wr) (fun j _ => 8 - (intOf j).toNat)
      case atStart => exact ⟨0, rfl, by omega, by simpa using H.out⟩
      case round =>
        clear H
        obtain ⟨n, rfl, hn, hb⟩ := hrel
        have H := Lib.hid hb
        clear hb
        by_cases hlt2 : n < 8
        · have hq0 : 0 ≤ x / 2 ^ n := Int.ediv_nonneg hxr.1 (Int.le_of_lt (Int.pow_pos (by decide)))
          have hq1 : x / 2 ^ n < 256 := Int.lt_of_le_of_lt (Int.ediv_le_self _ hxr.1) (by omega)
          have hand := u8_and1 (x / 2 ^ n) hq0 hq1
          have HT := Lib.hid (of8_take x n hlt2)
          clear hq0 hq1
          go_wp2_with fail
          refine (write_any _ _ H.out (by have := HN.out; simp [of8_length]; omega)).mono ?_
          rintro e w2 ⟨rfl, h2⟩
          rw [List.append_assoc, show 48 + x / 2 ^ n % 2 = bit8 x n from rfl, ← HT.out] at h2
          have H2 := Lib.hid h2
          clear h2
          go_wp2
          go_roundw
          case rel => exact ⟨n + 1, by go_num, by omega, H2.out⟩
          case measure => simp [intOf]; omega
        · obtain rfl : n = 8 := by omega
          have h8 : (of8 x).take 8 = of8 x := List.take_of_length_le (Nat.le_of_eq (of8_length x))
          have hI : OfInv w s (.int .i64 ((k : Int) + 1)) wr := by
            refine ⟨k + 1, L ++ of8 x, by go_num, by omega, ?_, by rw [List.length_append, HN.out, of8_length]; omega, ?_, by rw [← h8]; exact H.out⟩
            · have := HL.out
              rw [HD.out] at this
              rw [← this]
              simp [ofBits]
            · intro y hy
              simp only [List.mem_append] at hy
              exact hy.elim (HR.out y) (of8_range x y)
          have HI := Lib.hid hI
          clear hI h8
          go_wp2
          go_roundw
          case rel => exact HI.out
          case measure => simp [intOf]; omega
    · obtain rfl : k = s.size := by omega
      rw [bytes_end] at hL
      simp [ofBits] at hL
      have H := Lib.hid hb
      have HL := Lib.hid hL
      have HR := Lib.hid hr
      clear hb hL hlen hr
      go_wp2_with fail
      refine (string_any _ H.out HR.out).mono ?_
      rintro e w2 ⟨rfl, h2⟩
      have H2 := Lib.hid h2
      clear h2
      go_wp2
      go_ret
      exact ⟨by rw [HL.out]; rfl, H2.out⟩
end Go.Proofs.YtlfcfmdblmedcaaGreatDoor.Mine
