/- Plain laws of the decoder: flags, stuffed bits, what is broken off. No program in sight. -/
import Derived.Test.YtlfcfmdblmedcaaGreatDoorTFeed
namespace Go.Proofs.YtlfcfmdblmedcaaGreatDoor.Mine
open Go.RowKit Go.Proofs.YtlfcfmdblmedcaaGreatDoorW.PrintWords

theorem feedP_append : ∀ (a b : List Int) (c : List Int) (w : Bool) (o : Int), feedP c w o (a ++ b) = ((feedP c w o a).1 ++ (feedP (feedP c w o a).2.1 (feedP c w o a).2.2.1 (feedP c w o a).2.2.2 b).1, (feedP (feedP c w o a).2.1 (feedP c w o a).2.2.1 (feedP c w o a).2.2.2 b).2)
  | [], b, c, w, o => by simp [feedP]
  | x :: a, b, c, w, o => by
    have e : ∀ l, feedP c w o (x :: l) = ((bitP c w o x).1.toList ++ (feedP (bitP c w o x).2.1 (bitP c w o x).2.2.1 (bitP c w o x).2.2.2 l).1, (feedP (bitP c w o x).2.1 (bitP c w o x).2.2.1 (bitP c w o x).2.2.2 l).2) := fun l => rfl
    rw [List.cons_append, e, e, feedP_append a b]
    simp only [List.append_assoc]
/-- Two strings, one behind the other. -/
theorem feedP_two {a b c c1 c2 : List Int} {w w1 w2 : Bool} {o o1 o2 : Int} {e1 e2 : List (Int × List Int)} (h1 : feedP c w o a = (e1, (c1, w1, o1))) (h2 : feedP c1 w1 o1 b = (e2, (c2, w2, o2))) : feedP c w o (a ++ b) = (e1 ++ e2, (c2, w2, o2)) := by
  rw [feedP_append, h1]
  simp only
  rw [h2]
theorem feed_flag_new (w : Bool) : feedP [] w 0 flagL = ([], ([], true, 0)) := by cases w <;> decide
theorem bit_zero_state (c : List Int) (w : Bool) (o : Int) : ∃ e c' w', bitP c w o 48 = (e, (c', w', 0)) := by
  unfold bitP
  rw [if_neg (by decide)]
  split
  · split
    · exact ⟨_, _, _, rfl⟩
    · exact ⟨_, _, _, rfl⟩
  · exact ⟨_, _, _, rfl⟩
theorem bit_one_state (c : List Int) (w : Bool) (o : Int) (h : o ≤ 5) : ∃ c', bitP c w o 49 = (none, (c', w, o + 1)) := by
  unfold bitP
  rw [if_pos rfl, if_neg (by intro q; omega)]
  exact ⟨_, rfl⟩
theorem feed_cons {c c1 : List Int} {w w1 : Bool} {o o1 x : Int} {l : List Int} {e : Option (Int × List Int)} {r : List (Int × List Int) × (List Int × Bool × Int)} (h : bitP c w o x = (e, (c1, w1, o1))) (h2 : feedP c1 w1 o1 l = r) : feedP c w o (x :: l) = (e.toList ++ r.1, r.2) := by
  subst h2
  show ((bitP c w o x).1.toList ++ _, _) = _
  rw [h]
theorem feed_flag_state (c : List Int) (w : Bool) (o : Int) : ∃ e, feedP c w o flagL = (e, ([], true, 0)) := by
  obtain ⟨e0, c0, w0, h0⟩ := bit_zero_state c w o
  obtain ⟨c1, h1⟩ := bit_one_state c0 w0 0 (by decide)
  obtain ⟨c2, h2⟩ := bit_one_state c1 w0 1 (by decide)
  obtain ⟨c3, h3⟩ := bit_one_state c2 w0 2 (by decide)
  obtain ⟨c4, h4⟩ := bit_one_state c3 w0 3 (by decide)
  obtain ⟨c5, h5⟩ := bit_one_state c4 w0 4 (by decide)
  obtain ⟨c6, h6⟩ := bit_one_state c5 w0 5 (by decide)
  have h7 : bitP c6 w0 6 48 = (flagP c6 w0, ([], true, 0)) := by unfold bitP; rw [if_neg (by decide), if_pos (by decide), if_pos rfl]
  exact ⟨_, feed_cons h0 (feed_cons h1 (feed_cons h2 (feed_cons h3 (feed_cons h4 (feed_cons h5 (feed_cons h6 (feed_cons h7 rfl)))))))⟩
theorem bit_one_put {c : List Int} {o : Int} (ho : o ≤ 4) (hc : c.length ≤ 2134) : bitP c true o 49 = (none, (c ++ [49], true, o + 1)) := by
  unfold bitP
  rw [if_pos rfl, if_neg (by intro q; omega), if_pos ⟨rfl, by omega, hc⟩]
theorem bit_zero_put {c : List Int} {o : Int} (ho : o ≤ 4) (hc : c.length ≤ 2134) : bitP c true o 48 = (none, (c ++ [48], true, 0)) := by
  unfold bitP
  rw [if_neg (by decide), if_neg (by omega), if_pos ⟨rfl, hc⟩]
theorem bit_zero_drop {c : List Int} : bitP c true 5 48 = (none, (c, true, 0)) := by
  unfold bitP
  rw [if_neg (by decide), if_pos (by decide), if_neg (by decide)]
theorem feed_stuff : ∀ (l : List Int), IsBits l → ∀ (c : List Int) (o : Int), 0 ≤ o → o ≤ 4 → c.length + l.length ≤ 2128 → ∃ o', 0 ≤ o' ∧ o' ≤ 4 ∧ feedP c true o (stuffS o l) = ([], (c ++ l, true, o'))
  | [], _, c, o, h0, h1, _ => ⟨o, h0, h1, by simp [stuffS, feedP]⟩
  | x :: l, hb, c, o, h0, h1, hl => by
    have hbl : IsBits l := fun y hy => hb y (by simp [hy])
    simp at hl
    rcases hb x (by simp) with rfl | rfl
    · obtain ⟨o', a1, a2, a3⟩ := feed_stuff l hbl (c ++ [48]) 0 (by decide) (by decide) (by simp; omega)
      refine ⟨o', a1, a2, ?_⟩
      have e : stuffS o (48 :: l) = 48 :: stuffS 0 l := by simp [stuffS]
      rw [e, feed_cons (bit_zero_put h1 (by omega)) a3]
      simp
    · by_cases h4 : o = 4
      · subst h4
        obtain ⟨o', a1, a2, a3⟩ := feed_stuff l hbl (c ++ [49]) 0 (by decide) (by decide) (by simp; omega)
        refine ⟨o', a1, a2, ?_⟩
        have e : stuffS 4 (49 :: l) = 49 :: 48 :: stuffS 0 l := by simp [stuffS]
        rw [e, feed_cons (bit_one_put (o := 4) (by decide) (by omega)) (feed_cons (bit_zero_drop) a3)]
        simp
      · obtain ⟨o', a1, a2, a3⟩ := feed_stuff l hbl (c ++ [49]) (o + 1) (by omega) (by omega) (by simp; omega)
        refine ⟨o', a1, a2, ?_⟩
        have e : stuffS o (49 :: l) = 49 :: stuffS (o + 1) l := by simp [stuffS, h4]
        rw [e, feed_cons (bit_one_put h1 (by omega)) a3]
        simp
theorem bit_zero_in0 {c : List Int} {o : Int} (ho : o ≤ 5) : ∃ c', bitP c true o 48 = (none, (c', true, 0)) := by
  unfold bitP
  rw [if_neg (by decide)]
  split
  · rw [if_neg (by omega)]; exact ⟨_, rfl⟩
  · exact ⟨_, rfl⟩
theorem feed_stuff_take : ∀ (l : List Int), IsBits l → ∀ (c : List Int) (o : Int) (m : Nat), 0 ≤ o → o ≤ 4 → ∃ c' o', 0 ≤ o' ∧ o' ≤ 5 ∧ feedP c true o ((stuffS o l).take m) = ([], (c', true, o'))
  | [], _, c, o, m, h0, h1 => ⟨c, o, h0, by omega, by simp [stuffS, feedP]⟩
  | x :: l, hb, c, o, 0, h0, h1 => ⟨c, o, h0, by omega, by simp [feedP]⟩
  | x :: l, hb, c, o, m + 1, h0, h1 => by
    have hbl : IsBits l := fun y hy => hb y (by simp [hy])
    rcases hb x (by simp) with rfl | rfl
    · obtain ⟨c1, q1⟩ := bit_zero_in0 (c := c) (o := o) (by omega)
      obtain ⟨c', o', a1, a2, a3⟩ := feed_stuff_take l hbl c1 0 m (by decide) (by decide)
      refine ⟨c', o', a1, a2, ?_⟩
      have e : (stuffS o (48 :: l)).take (m + 1) = 48 :: (stuffS 0 l).take m := by simp [stuffS]
      rw [e, feed_cons q1 a3]
      simp
    · obtain ⟨c1, q1⟩ := bit_one_state c true o (by omega)
      by_cases h4 : o = 4
      · subst h4
        cases m with
        | zero =>
          refine ⟨c1, 5, by decide, by decide, ?_⟩
          have e : (stuffS 4 (49 :: l)).take 1 = [49] := by simp [stuffS]
          rw [e, feed_cons q1 (show feedP c1 true (4 + 1) [] = ([], (c1, true, 5)) from rfl)]
          simp
        | succ m =>
          obtain ⟨c2, q2⟩ := bit_zero_in0 (c := c1) (o := 4 + 1) (by decide)
          obtain ⟨c', o', a1, a2, a3⟩ := feed_stuff_take l hbl c2 0 m (by decide) (by decide)
          refine ⟨c', o', a1, a2, ?_⟩
          have e : (stuffS 4 (49 :: l)).take (m + 1 + 1) = 49 :: 48 :: (stuffS 0 l).take m := by simp [stuffS]
          rw [e, feed_cons q1 (feed_cons q2 a3)]
          simp
      · obtain ⟨c', o', a1, a2, a3⟩ := feed_stuff_take l hbl c1 (o + 1) m (by omega) (by omega)
        refine ⟨c', o', a1, a2, ?_⟩
        have e : (stuffS o (49 :: l)).take (m + 1) = 49 :: (stuffS (o + 1) l).take m := by simp [stuffS, h4]
        rw [e, feed_cons q1 a3]
        simp
theorem feed_flag_close (l : List Int) (o : Int) (h1 : o ≤ 4) (hl : 0 < l.length ∧ l.length ≤ 2128) (h8 : l.length % 8 = 0) : feedP l true o flagL = ([(0, octsL l)], ([], true, 0)) := by
  have b0 := bit_zero_put (c := l) h1 (by omega)
  have b1 := bit_one_put (c := l ++ [48]) (o := 0) (by decide) (by simp; omega)
  have b2 := bit_one_put (c := l ++ [48] ++ [49]) (o := 1) (by decide) (by simp; omega)
  have b3 := bit_one_put (c := l ++ [48] ++ [49] ++ [49]) (o := 2) (by decide) (by simp; omega)
  have b4 := bit_one_put (c := l ++ [48] ++ [49] ++ [49] ++ [49]) (o := 3) (by decide) (by simp; omega)
  have b5 := bit_one_put (c := l ++ [48] ++ [49] ++ [49] ++ [49] ++ [49]) (o := 4) (by decide) (by simp; omega)
  have b6 : bitP (l ++ [48] ++ [49] ++ [49] ++ [49] ++ [49] ++ [49]) true 5 49 = (none, (l ++ [48] ++ [49] ++ [49] ++ [49] ++ [49] ++ [49], true, 6)) := by
    unfold bitP
    rw [if_pos rfl, if_neg (by intro q; omega), if_neg (by intro q; omega)]
    rfl
  have b7 : bitP (l ++ [48] ++ [49] ++ [49] ++ [49] ++ [49] ++ [49]) true 6 48 = (some (0, octsL l), ([], true, 0)) := by
    have hlen : (l ++ [48] ++ [49] ++ [49] ++ [49] ++ [49] ++ [49] : List Int).length = l.length + 6 := by simp
    have hf : flagP (l ++ [48] ++ [49] ++ [49] ++ [49] ++ [49] ++ [49]) true = some (0, octsL l) := by
      unfold flagP
      rw [hlen, if_neg (by intro q; rcases q with q | q; (exact Bool.noConfusion q); omega), if_neg (by omega)]
      have e : (l ++ [48] ++ [49] ++ [49] ++ [49] ++ [49] ++ [49]).take (l.length + 6 - 6) = l := by
        simp [List.append_assoc]
      rw [e]
    unfold bitP
    rw [if_neg (by decide), if_pos (by decide), if_pos rfl, hf]
  exact feed_cons b0 (feed_cons b1 (feed_cons b2 (feed_cons b3 (feed_cons b4 (feed_cons b5 (feed_cons b6 (feed_cons b7 rfl)))))))
def onesL : List Int := [49, 49, 49, 49, 49, 49, 49, 49]
theorem bit_out {o : Int} : bitP [] false o 49 = (none, ([], false, o + 1)) := by
  unfold bitP
  rw [if_pos rfl, if_neg (by simp), if_neg (by simp)]
theorem bit_abort_ev (c : List Int) : bitP c true 6 49 = (some (1, []), ([], false, 7)) := by
  unfold bitP
  rw [if_pos rfl, if_pos ⟨by decide, rfl⟩]
  rfl
theorem feed_ones_out : ∀ (n : Nat) (o : Int), feedP [] false o (List.replicate n 49) = ([], ([], false, o + n))
  | 0, o => by simp [feedP]
  | n + 1, o => by
    rw [List.replicate_succ, feed_cons bit_out (feed_ones_out n (o + 1))]
    simp; omega
theorem feed_ones_in : ∀ (k : Nat) (c : List Int) (o : Int) (n : Nat), o + k = 6 → k + 1 ≤ n → feedP c true o (List.replicate n 49) = ([(1, [])], ([], false, o + n))
  | 0, c, o, n, h, hn => by
    obtain ⟨n, rfl⟩ : ∃ m, n = m + 1 := ⟨n - 1, by omega⟩
    obtain rfl : o = 6 := by omega
    rw [List.replicate_succ, feed_cons (bit_abort_ev c) (feed_ones_out n 7)]
    simp; omega
  | k + 1, c, o, n, h, hn => by
    obtain ⟨n, rfl⟩ : ∃ m, n = m + 1 := ⟨n - 1, by omega⟩
    obtain ⟨c1, q1⟩ := bit_one_state c true o (by omega)
    rw [List.replicate_succ, feed_cons q1 (feed_ones_in k c1 (o + 1) n (by omega) (by omega))]
    simp; omega
theorem feed_abort (c : List Int) (o : Int) (h0 : 0 ≤ o) (h1 : o ≤ 5) : feedP c true o onesL = ([(1, [])], ([], false, o + 8)) := by
  obtain ⟨k, hk⟩ : ∃ k : Nat, o + k = 6 := ⟨(6 - o).toNat, by omega⟩
  exact feed_ones_in k c o 8 hk (by omega)
theorem feed_flag_out (o : Int) (h : 8 ≤ o) : feedP [] false o flagL = ([], ([], true, 0)) := by
  have b0 : bitP [] false o 48 = (none, ([], false, 0)) := by
    unfold bitP
    rw [if_neg (by decide), if_pos (by omega), if_neg (by omega)]
  exact feed_cons b0 (show feedP [] false 0 [49, 49, 49, 49, 49, 49, 48] = ([], ([], true, 0)) by decide)

/-! ### octets of their own bits -/
theorem of8_get (x : Int) : ∀ m, m < 8 → (of8 x).getD m 0 = bit8 x m := by
  intro m hm
  simp [of8, List.getD_eq_getElem?_getD, hm]
theorem ofBits_get : ∀ (s : List Int) (j m : Nat), m < 8 → j < s.length → (ofBits s).getD (8 * j + m) 0 = bit8 (s.getD j 0) m
  | [], j, m, _, h => by simp at h
  | x :: s, j, m, hm, h => by
    have e : ofBits (x :: s) = of8 x ++ ofBits s := by simp [ofBits]
    have hl := of8_length x
    rw [e]
    cases j with
    | zero =>
      rw [List.getD_eq_getElem?_getD, List.getElem?_append_left (by omega), ← List.getD_eq_getElem?_getD, Nat.mul_zero, Nat.zero_add, of8_get x m hm]
      rfl
    | succ j =>
      rw [List.getD_eq_getElem?_getD, List.getElem?_append_right (by omega), ← List.getD_eq_getElem?_getD, show 8 * (j + 1) + m - (of8 x).length = 8 * j + m by omega, ofBits_get s j m hm (by simpa using h)]
      rfl
theorem pval8 (x : Int) (h : 0 ≤ x ∧ x ≤ 255) (l : List Int) (j : Nat) (hg : ∀ m, m < 8 → l.getD (8 * j + m) 0 = bit8 x m) : pval l j 8 = x := by
  simp only [pval, hg 0 (by decide), hg 1 (by decide), hg 2 (by decide), hg 3 (by decide), hg 4 (by decide), hg 5 (by decide), hg 6 (by decide), hg 7 (by decide), bit8]
  omega
theorem octs_of (s : List Int) (h : ∀ x ∈ s, 0 ≤ x ∧ x ≤ 255) : octsL (ofBits s) = s := by
  unfold octsL octAt
  rw [ofBits_length, show 8 * s.length / 8 = s.length by omega]
  apply List.ext_getElem
  · simp
  · intro j h1 h2
    simp only [List.getElem_map, List.getElem_range]
    rw [show min 8 (8 * s.length - 8 * j) = 8 by omega]
    have hx := h s[j] (List.getElem_mem h2)
    apply pval8 _ hx
    intro m hm
    rw [ofBits_get s j m hm h2]
    simp [List.getD_eq_getElem?_getD, h2]
theorem ofBits_bits (s : List Int) : IsBits (ofBits s) := by
  intro y hy
  simp [ofBits] at hy
  obtain ⟨x, -, hx⟩ := hy
  simp [of8] at hx
  obtain ⟨m, -, rfl⟩ := hx
  unfold bit8
  omega
theorem stuffS_bits : ∀ (l : List Int) (o : Int), IsBits (stuffS o l)
  | [], o => by intro y hy; simp [stuffS] at hy
  | x :: l, o => by
    intro y hy
    unfold stuffS at hy
    split at hy
    · split at hy
      · simp at hy
        rcases hy with rfl | rfl | hy
        · exact Or.inr rfl
        · exact Or.inl rfl
        · exact stuffS_bits l 0 y hy
      · simp at hy
        rcases hy with rfl | hy
        · exact Or.inr rfl
        · exact stuffS_bits l (o + 1) y hy
    · simp at hy
      rcases hy with rfl | hy
      · exact Or.inl rfl
      · exact stuffS_bits l 0 y hy
theorem IsBits.append {a b : List Int} (ha : IsBits a) (hb : IsBits b) : IsBits (a ++ b) := by
  intro y hy
  rcases List.mem_append.1 hy with h | h
  · exact ha y h
  · exact hb y h
theorem flagL_bits : IsBits flagL := by unfold IsBits; decide
theorem onesL_bits : IsBits onesL := by unfold IsBits; decide

/-- A frame's octets between flags, behind a flag or at the beginning: itself, and then as behind a flag. -/
theorem feed_enc (s : List Int) (w : Bool) (h : ∀ x ∈ s, 0 ≤ x ∧ x ≤ 255) (hl : 0 < s.length ∧ s.length ≤ 266) : feedP [] w 0 (encL s) = ([(0, s)], ([], true, 0)) := by
  obtain ⟨o', a1, a2, a3⟩ := feed_stuff (ofBits s) (ofBits_bits s) [] 0 (by decide) (by decide) (by rw [ofBits_length]; simp; omega)
  have hc := feed_flag_close (ofBits s) o' a2 (by rw [ofBits_length]; omega) (by rw [ofBits_length]; omega)
  rw [octs_of s h] at hc
  unfold encL
  exact feedP_two (feedP_two (feed_flag_new w) a3) hc
/-- One that is broken off, and a flag. -/
theorem feed_broken (s : List Int) (w : Bool) (m : Nat) : feedP [] w 0 (flagL ++ (stuffS 0 (ofBits s)).take m ++ onesL ++ flagL) = ([(1, [])], ([], true, 0)) := by
  obtain ⟨c', o', a1, a2, a3⟩ := feed_stuff_take (ofBits s) (ofBits_bits s) [] 0 m (by decide) (by decide)
  exact feedP_two (feedP_two (feedP_two (feed_flag_new w) a3) (feed_abort c' o' a1 a2)) (feed_flag_out _ (by omega))
/-- Whatever stands between flags: it ends as behind a flag; a decoder to which no bits have come meets the same as one behind a flag. -/
theorem feed_any_mid (mid : List Int) (w : Bool) : feedP [] w 0 (flagL ++ mid ++ flagL) = ((feedP [] false 0 (flagL ++ mid ++ flagL)).1, ([], true, 0)) := by
  have h : ∀ w, ∃ e, feedP [] w 0 (flagL ++ mid ++ flagL) = (e, ([], true, 0)) ∧ e = (feedP [] true 0 (mid ++ flagL)).1 := by
    intro w
    rw [List.append_assoc]
    obtain ⟨e, he⟩ := feed_flag_state (feedP [] true 0 mid).2.1 (feedP [] true 0 mid).2.2.1 (feedP [] true 0 mid).2.2.2
    have h1 : feedP [] true 0 (mid ++ flagL) = ((feedP [] true 0 mid).1 ++ e, ([], true, 0)) := by rw [feedP_append, he]
    refine ⟨_, feedP_two (feed_flag_new w) h1, ?_⟩
    rw [h1]
    rfl
  obtain ⟨e1, h1, q1⟩ := h w
  obtain ⟨e2, h2, q2⟩ := h false
  rw [h1, h2, q1, q2]
end Go.Proofs.YtlfcfmdblmedcaaGreatDoor.Mine
