/- The contracts of hdlc.Stuff and hdlc.Encode. -/
import Derived.Test.YtlfcfmdblmedcaaGreatDoorTBits
namespace Go.Proofs.YtlfcfmdblmedcaaGreatDoor.Mine
open Go.RowKit Go.Proofs.YtlfcfmdblmedcaaGreatDoorW.PrintWords
attribute [local go_sem] max_int min_int max_of_two min_of_two

theorem bytesOf_str (xs : List Int) (h : ∀ x ∈ xs, 0 ≤ x ∧ x ≤ 255) : bytesOf (strOfNums xs) = xs := by
  unfold bytesOf
  rw [strOfNums_data, List.map_map]
  conv => rhs; rw [← List.map_id xs]
  apply List.map_congr_left
  intro x hx
  obtain ⟨h0, h1⟩ := h x hx
  simp only [Function.comp, id]
  rw [UInt8.toNat_ofNat_of_lt' (Nat.lt_of_le_of_lt (show x.toNat ≤ 255 by omega) (by decide))]
  omega
theorem str_append (a b : List Int) : strOfNums (a ++ b) = strOfNums a ++ strOfNums b := by
  apply ByteArray.ext
  simp [strOfNums]

/-- Bits with a 0 behind each five 1s; o 1s stand ahead. -/
def stuffS : Int → List Int → List Int
  | _, [] => []
  | o, x :: l => if x = 49 then (if o = 4 then 49 :: 48 :: stuffS 0 l else 49 :: stuffS (o + 1) l) else 48 :: stuffS 0 l
theorem stuffS_range : ∀ (l : List Int) (o : Int), ∀ y ∈ stuffS o l, 0 ≤ y ∧ y ≤ 255 := by
  intro l
  induction l with
  | nil => intro o y hy; simp [stuffS] at hy
  | cons x l ih =>
    intro o y hy
    unfold stuffS at hy
    split at hy
    · split at hy
      · simp at hy; rcases hy with rfl | rfl | hy
        · omega
        · omega
        · exact ih _ _ hy
      · simp at hy; rcases hy with rfl | hy
        · omega
        · exact ih _ _ hy
    · simp at hy; rcases hy with rfl | hy
      · omega
      · exact ih _ _ hy

def StInv (w : World) (s : ByteArray) (i ov : Value) (wr : World) : Prop :=
  ∃ (k : Nat) (o : Int) (L : List Int), i = .int .i64 k ∧ ov = .int .i64 o ∧ 0 ≤ o ∧ o ≤ 4 ∧ k ≤ s.size ∧ L ++ stuffS o ((bytesOf s).drop k) = stuffS 0 (bytesOf s) ∧ L.length ≤ 2 * k ∧ Bld w.heap.size w L wr

set_option maxHeartbeats 1000000 in
theorem stuff_any (s : ByteArray) (w : World) (hs : s.size ≤ 10000000) :
    Calls Tryz.prog 59 #[.string s] w fun e w' => e = .returned (.string (strOfNums (stuffS 0 (bytesOf s)))) ∧ Below w.heap.size w w' := by
  have H0 := Lib.hid (Bld.start w)
  go_enter Tryz.func59, Tryz.ntmps59
  go_wp2_with fail
  go_loopw [9, 4] (fun i o wr => StInv w s i o wr) (fun i _ _ => s.size - (intOf i).toNat)
  case atStart => exact ⟨0, 0, [], rfl, rfl, by omega, by omega, Nat.zero_le _, by simp, by simp, H0.out⟩
  case round =>
    clear H0
    obtain ⟨k, o, L, rfl, rfl, ho0, ho4, hk, hL, hlen, hb⟩ := hrel
    by_cases hlt : k < s.size
    · have hx := bt_nat s k
      have hdr := bytes_drop s k hlt
      obtain ⟨x, hxx⟩ : ∃ x, bt s k = x := ⟨_, rfl⟩
      rw [hxx] at hx hdr
      rw [hdr] at hL
      have H := Lib.hid hb
      have HN := Lib.hid hlen
      clear hb hlen hdr hxx
      by_cases e1 : x = 49
      · subst e1
        by_cases e2 : o = 4
        · subst e2
          have hL2 : (L ++ [49] ++ [48]) ++ stuffS 0 ((bytesOf s).drop (k + 1)) = stuffS 0 (bytesOf s) := by rw [← hL]; simp [stuffS]
          have HL := Lib.hid hL2
          clear hL hL2
          go_wp2_with fail
          refine (write_any _ _ H.out (by have := HN.out; omega)).mono ?_
          rintro e w2 ⟨rfl, h2⟩
          have H2 := Lib.hid h2
          clear h2
          go_wp2_with fail
          refine (write_any _ _ H2.out (by have := HN.out; simp; omega)).mono ?_
          rintro e w3 ⟨rfl, h3⟩
          have H3 := Lib.hid h3
          clear h3
          go_wp2
          go_roundw
          case rel => exact ⟨k + 1, 0, _, by go_num, rfl, by omega, by omega, by omega, HL.out, by have := HN.out; simp; omega, H3.out⟩
          case measure => simp [intOf]; omega
        · have hL2 : (L ++ [49]) ++ stuffS (o + 1) ((bytesOf s).drop (k + 1)) = stuffS 0 (bytesOf s) := by rw [← hL]; simp [stuffS, e2]
          have HL := Lib.hid hL2
          have q1 : (o + 1 == 5) = false := by simp; omega
          have ho3 : o + 1 ≤ 4 := by omega
          clear hL hL2 e2
          go_wp2_with fail
          refine (write_any _ _ H.out (by have := HN.out; omega)).mono ?_
          rintro e w2 ⟨rfl, h2⟩
          have H2 := Lib.hid h2
          clear h2
          go_wp2
          go_roundw
          case rel => exact ⟨k + 1, o + 1, _, by go_num, rfl, by omega, by omega, by omega, HL.out, by have := HN.out; simp; omega, H2.out⟩
          case measure => simp [intOf]; omega
      · have hL2 : (L ++ [48]) ++ stuffS 0 ((bytesOf s).drop (k + 1)) = stuffS 0 (bytesOf s) := by rw [← hL]; simp [stuffS, e1]
        have HL := Lib.hid hL2
        have q1 : (x != 49) = true := by simpa using e1
        clear hL hL2 e1
        go_wp2_with fail
        refine (write_any _ _ H.out (by have := HN.out; omega)).mono ?_
        rintro e w2 ⟨rfl, h2⟩
        have H2 := Lib.hid h2
        clear h2
        go_wp2
        go_roundw
        case rel => exact ⟨k + 1, 0, _, by go_num, rfl, by omega, by omega, by omega, HL.out, by have := HN.out; simp; omega, H2.out⟩
        case measure => simp [intOf]; omega
    · obtain rfl : k = s.size := by omega
      rw [bytes_end] at hL
      simp [stuffS] at hL
      have H := Lib.hid hb
      have HL := Lib.hid hL
      have hr : ∀ x ∈ L, 0 ≤ x ∧ x ≤ 255 := by rw [hL]; exact stuffS_range _ _
      have HR := Lib.hid hr
      clear hb hL hlen hr
      go_wp2_with fail
      refine (string_any _ H.out HR.out).mono ?_
      rintro e w2 ⟨rfl, h2⟩
      have H2 := Lib.hid h2
      clear h2
      go_wp2
      go_ret
      exact ⟨by rw [HL.out]; rfl, H2.out⟩

theorem stuffS_length : ∀ (l : List Int) (o : Int), (stuffS o l).length ≤ 2 * l.length := by
  intro l
  induction l with
  | nil => intro o; simp [stuffS]
  | cons x l ih =>
    intro o
    unfold stuffS
    split
    · split
      · have := ih 0; simp; omega
      · have := ih (o + 1); simp; omega
    · have := ih 0; simp; omega
def flagL : List Int := [48, 49, 49, 49, 49, 49, 49, 48]
/-- A frame's bits, with its flags. -/
def encL (l : List Int) : List Int := flagL ++ stuffS 0 (ofBits l) ++ flagL
theorem ofBits_range (l : List Int) : ∀ y ∈ ofBits l, 0 ≤ y ∧ y ≤ 255 := by
  intro y hy
  simp [ofBits] at hy
  obtain ⟨x, -, hx⟩ := hy
  exact of8_range x y hx
theorem ofBits_length (l : List Int) : (ofBits l).length = 8 * l.length := by
  induction l with
  | nil => rfl
  | cons x l ih =>
    have e : ofBits (x :: l) = of8 x ++ ofBits l := by simp [ofBits]
    rw [e, List.length_append, of8_length, ih, List.length_cons]; omega

set_option maxHeartbeats 1000000 in
theorem encode_any (s : ByteArray) (w : World) (hs : s.size ≤ 1000000) :
    Calls Tryz.prog 30 #[.string s] w fun e w' => e = .returned (.string (strOfNums (encL (bytesOf s)))) ∧ Below w.heap.size w w' := by
  have hz : (strOfNums (ofBits (bytesOf s))).size ≤ 10000000 := by rw [strOfNums_size, ofBits_length, bytesOf_length]; omega
  have he : bytesOf (strOfNums (ofBits (bytesOf s))) = ofBits (bytesOf s) := bytesOf_str _ (ofBits_range _)
  have HZ := Lib.hid hz
  have HE := Lib.hid he
  clear hz he
  go_enter Tryz.func30, Tryz.ntmps30
  go_wp2_with fail
  refine (of_any s _ hs).mono ?_
  rintro e w2 ⟨rfl, h2⟩
  have H2 := Lib.hid h2
  clear h2
  go_wp2_with fail
  refine (stuff_any _ _ HZ.out).mono ?_
  rw [HE.out]
  rintro e w3 ⟨rfl, h3⟩
  have H3 := Lib.hid h3
  clear h3
  obtain ⟨y, hy⟩ : ∃ y, strOfNums (stuffS 0 (ofBits (bytesOf s))) = y := ⟨_, rfl⟩
  have hys : y.size ≤ 20000000 := by
    rw [← hy, strOfNums_size]
    have h1 := stuffS_length (ofBits (bytesOf s)) 0
    rw [ofBits_length, bytesOf_length] at h1
    omega
  rw [hy]
  have HY := Lib.hid hy
  clear hy
  go_wp2
  go_ret
  exact ⟨by unfold encL; rw [str_append, str_append, HY.out]; rfl, H2.out.trans (H3.out.mono H2.out.size)⟩
end Go.Proofs.YtlfcfmdblmedcaaGreatDoor.Mine
