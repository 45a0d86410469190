/- Plain law: a frame that made tells is told again from its octets. -/
import Derived.Test.YtlfcfmdblmedcaaGreatDoorTFrameF
import Derived.Test.YtlfcfmdblmedcaaGreatDoorTMade
namespace Go.Proofs.YtlfcfmdblmedcaaGreatDoor.Mine
open Go.RowKit Go.Proofs.YtlfcfmdblmedcaaGreatDoorW.PrintWords

theorem check_seal (l : List Int) : checkL (sealL l) = (l, 0) := by
  have hl : (sealL l).length = l.length + 2 := by simp [sealL]
  have ht : (sealL l).take ((sealL l).length - 2) = l := by rw [hl]; simp [sealL]
  unfold checkL
  rw [if_neg (by omega), ht, if_pos rfl]
theorem addr_head (l : List Int) : addrF (0 :: 129 :: l) = (0, 64, false, 0) := by
  unfold addrF
  rw [if_neg (by simp), if_neg (by simp)]
  simp [fieldV]
theorem ctrl_ui (p : Bool) (l : List Int) : ctrlF (ctrlL 6 0 0 p ++ l) = ⟨6, p, 0, 0, 1, 0⟩ := by
  cases p
  · have e : ctrlL 6 0 0 false ++ l = 3 :: l := rfl
    rw [e]
    have hk : kindOf 3 = 6 := by decide
    have hb : bits .and .u8 3 16 = 0 := by decide
    simp [ctrlF, hk, hb]
  · have e : ctrlL 6 0 0 true ++ l = 19 :: l := rfl
    rw [e]
    have hk : kindOf 19 = 6 := by decide
    have hb : bits .and .u8 19 16 = 16 := by decide
    simp [ctrlF, hk, hb]
theorem ctrl_sabme (p : Bool) (l : List Int) : ctrlF (ctrlL 4 0 0 p ++ l) = ⟨4, p, 0, 0, 1, 0⟩ := by
  cases p
  · have e : ctrlL 4 0 0 false ++ l = 111 :: l := rfl
    rw [e]
    have hk : kindOf 111 = 4 := by decide
    have hb : bits .and .u8 111 16 = 0 := by decide
    simp [ctrlF, hk, hb]
  · have e : ctrlL 4 0 0 true ++ l = 127 :: l := rfl
    rw [e]
    have hk : kindOf 127 = 4 := by decide
    have hb : bits .and .u8 127 16 = 16 := by decide
    simp [ctrlF, hk, hb]
theorem fieldV17 (p : Bool) (n : Int) (h : 0 ≤ n ∧ n ≤ 127) : fieldV (b01 p + n * 2) 1 7 = n := by
  have hb : b01 p = 0 ∨ b01 p = 1 := by cases p; exact Or.inl rfl; exact Or.inr rfl
  show (b01 p + n * 2) / 2 % 128 = n
  omega
theorem fieldV17' (n : Int) (h : 0 ≤ n ∧ n ≤ 127) : fieldV (n * 2) 1 7 = n := by
  show n * 2 / 2 % 128 = n
  omega
theorem ctrl_i (ns nr : Int) (p : Bool) (l : List Int) (hs : 0 ≤ ns ∧ ns ≤ 127) (hr : 0 ≤ nr ∧ nr ≤ 127) : ctrlF (ctrlL 0 ns nr p ++ l) = ⟨0, p, ns, nr, 2, 0⟩ := by
  have e : ctrlL 0 ns nr p ++ l = (ns * 2) :: (b01 p + nr * 2) :: l := rfl
  rw [e]
  have hb : (b01 p % 2 == 1) = p := by cases p <;> rfl
  have h1 := fieldV17 p nr hr
  have h2 := fieldV17' ns hs
  have h3 : ¬ l.length + 1 + 1 < 2 := by omega
  simp [ctrlF, hb, h1, h2, h3]
theorem ctrl_rr (nr : Int) (p : Bool) (l : List Int) (hr : 0 ≤ nr ∧ nr ≤ 127) : ctrlF (ctrlL 1 0 nr p ++ l) = ⟨1, p, 0, nr, 2, 0⟩ := by
  have e : ctrlL 1 0 nr p ++ l = 1 :: (b01 p + nr * 2) :: l := rfl
  rw [e]
  have hk : kindOf 1 = 1 := by decide
  have hb : (b01 p % 2 == 1) = p := by cases p <;> rfl
  have h1 := fieldV17 p nr hr
  have h3 : ¬ l.length + 1 + 1 < 2 := by omega
  simp [ctrlF, hk, hb, h1, firstT, h3]

theorem frame_round {k ns nr : Int} (p : Bool) {info : ByteArray} (h : FrOk k ns nr info) : frameF (putL k ns nr p (bytesOf info)) = ⟨0, 64, true, k, p, ns, nr, bytesOf info, 0⟩ := by
  obtain ⟨hk, hs, hr, hs0, hr0, hi, hi2⟩ := h
  have hlen : (bytesOf info).length = info.size := bytesOf_length info
  obtain ⟨l, hl⟩ : ∃ l, bytesOf info = l := ⟨_, rfl⟩
  rw [hl] at hlen ⊢
  have e : ∀ c : List Int, ([0, 129] ++ c ++ l : List Int) = 0 :: 129 :: (c ++ l) := fun c => rfl
  unfold putL frameF
  rw [check_seal, e]
  simp only [List.drop_succ_cons, List.drop_zero, addr_head]
  rcases hk with rfl | rfl | rfl | rfl
  · have hc : ctrlF (ctrlL 0 ns nr p ++ l) = ⟨0, p, ns, nr, 2, 0⟩ := ctrl_i ns nr p l hs hr
    have hcar : carriesF 0 (l.length : Int) = true := by simp [carriesF]; omega
    have hd : (0 :: 129 :: (ctrlL 0 ns nr p ++ l)).drop (2 + (2 : Int).toNat) = l := rfl
    simp only [hc, hd, hcar]
    simp [mayF]
  · obtain rfl := hs0 (by decide)
    obtain rfl := hr0 (by decide) (by decide)
    have hc := ctrl_ui p l
    have hcar : carriesF 6 (l.length : Int) = true := by simp [carriesF]; omega
    have hd : (0 :: 129 :: (ctrlL 6 0 0 p ++ l)).drop (2 + (1 : Int).toNat) = l := rfl
    simp only [hc, hd, hcar]
    simp [mayF]
  · obtain rfl := hs0 (by decide)
    have hc := ctrl_rr nr p l hr
    have hcar : carriesF 1 (l.length : Int) = true := by
      have : l.length = 0 := by omega
      rw [this]; rfl
    have hd : (0 :: 129 :: (ctrlL 1 0 nr p ++ l)).drop (2 + (2 : Int).toNat) = l := rfl
    simp only [hc, hd, hcar]
    simp [mayF]
  · obtain rfl := hs0 (by decide)
    obtain rfl := hr0 (by decide) (by decide)
    have hc := ctrl_sabme p l
    have hcar : carriesF 4 (l.length : Int) = true := by
      have : l.length = 0 := by omega
      rw [this]; rfl
    have hd : (0 :: 129 :: (ctrlL 4 0 0 p ++ l)).drop (2 + (1 : Int).toNat) = l := rfl
    simp only [hc, hd, hcar]
    simp [mayF]
theorem put_range {k ns nr : Int} (p : Bool) {info : ByteArray} (h : FrOk k ns nr info) : (∀ x ∈ putL k ns nr p (bytesOf info), 0 ≤ x ∧ x ≤ 255) ∧ 0 < (putL k ns nr p (bytesOf info)).length ∧ (putL k ns nr p (bytesOf info)).length ≤ 266 := by
  obtain ⟨hk, hs, hr, hs0, hr0, hi, hi2⟩ := h
  have hc := ctrlL_length k ns nr p
  have hcr := ctrlL_range k ns nr p hs hr
  have hlen : (bytesOf info).length = info.size := bytesOf_length info
  have hsum := sumF_range ([0, 129] ++ ctrlL k ns nr p ++ bytesOf info)
  unfold putL sealL
  obtain ⟨y, hy⟩ : ∃ y, sumF ([0, 129] ++ ctrlL k ns nr p ++ bytesOf info) = y := ⟨_, rfl⟩
  rw [hy] at hsum ⊢
  refine ⟨?_, by simp, by simp; omega⟩
  intro x hx
  rcases List.mem_append.1 hx with hx | hx
  · rcases List.mem_append.1 hx with hx | hx
    · rcases List.mem_append.1 hx with hx | hx
      · simp at hx; omega
      · exact hcr x hx
    · exact bytes_range info x hx
  · simp at hx
    rcases hx with rfl | rfl <;> omega

/-! ### the line -/
/-- The frames that events tell. -/
def goods : List (Int × List Int) → List FR
  | [] => []
  | e :: l => if e.1 = 0 ∧ (frameF e.2).err = 0 then frameF e.2 :: goods l else goods l
theorem goods_append : ∀ a b : List (Int × List Int), goods (a ++ b) = goods a ++ goods b
  | [], b => rfl
  | e :: a, b => by
    show (if _ then _ :: goods (a ++ b) else goods (a ++ b)) = (if _ then _ else _) ++ _
    rw [goods_append a b]
    split
    · rfl
    · rfl
/-- A line of bits, and the frames that come over it; it ends behind a flag. -/
def Line (L : List Int) (W : List FR) : Prop := ∃ ev w, feedP [] false 0 L = (ev, ([], w, 0)) ∧ goods ev = W ∧ IsBits L
theorem Line.nil : Line [] [] := ⟨[], false, rfl, rfl, fun x hx => by simp at hx⟩
theorem Line.more {L b : List Int} {W W' : List FR} (h : Line L W) (hb : IsBits b) (hp : ∀ w, ∃ ev, feedP [] w 0 b = (ev, ([], true, 0)) ∧ goods ev = W') : Line (L ++ b) (W ++ W') := by
  obtain ⟨ev, w, h1, h2, h3⟩ := h
  obtain ⟨ev', q1, q2⟩ := hp w
  exact ⟨ev ++ ev', true, feedP_two h1 q1, by rw [goods_append, h2, q2], h3.append hb⟩
section
variable {L : List Int} {W : List FR} {k ns nr : Int} {info : ByteArray}
theorem encL_bits (s : List Int) : IsBits (encL s) := (flagL_bits.append (stuffS_bits _ _)).append flagL_bits
/-- A frame as it is. -/
theorem Line.whole (p : Bool) (h : Line L W) (hf : FrOk k ns nr info) : Line (L ++ (encL (putL k ns nr p (bytesOf info)) ++ flagL)) (W ++ [⟨0, 64, true, k, p, ns, nr, bytesOf info, 0⟩]) := by
  obtain ⟨r1, r2, r3⟩ := put_range p hf
  have hr := frame_round p hf
  refine h.more ((encL_bits _).append flagL_bits) (fun w => ⟨[(0, putL k ns nr p (bytesOf info))], ?_, ?_⟩)
  · exact feedP_two (feed_enc _ w r1 ⟨r2, r3⟩) (feed_flag_new true)
  · simp [goods, hr]
theorem take_enc (s : List Int) (m : Nat) (h : m + 8 ≤ (flagL ++ stuffS 0 (ofBits s)).length) : (encL s).take (8 + m) = flagL ++ (stuffS 0 (ofBits s)).take m := by
  unfold encL
  rw [List.take_append_of_le_length (by omega), List.take_append]
  have e : flagL.length = 8 := rfl
  rw [e, show 8 + m - 8 = m by omega, List.take_of_length_le (by rw [e]; omega)]
/-- One that is broken off. -/
theorem Line.broken (s : List Int) (m : Nat) (h : Line L W) (hm : m + 16 ≤ (encL s).length) : Line (L ++ ((encL s).take (8 + m) ++ onesL ++ flagL)) W := by
  have hl : (encL s).length = (flagL ++ stuffS 0 (ofBits s)).length + 8 := by unfold encL; rw [List.length_append]; rfl
  rw [take_enc s m (by omega)]
  have := h.more (W' := []) (((flagL_bits.append (fun x hx => stuffS_bits _ _ x (List.mem_of_mem_take hx))).append onesL_bits).append flagL_bits) (fun w => ⟨_, feed_broken s w m, rfl⟩)
  rw [List.append_nil] at this
  exact this
theorem turn_mid (a b : List Int) (i : Nat) (h0 : 8 ≤ i) (h1 : i < 8 + a.length) : ∃ c, turnL (flagL ++ a ++ b) i = flagL ++ c ++ b := by
  refine ⟨a.set (i - 8) (97 - (flagL ++ a ++ b).getD i 0), ?_⟩
  unfold turnL
  have e : flagL.length = 8 := rfl
  rw [List.append_assoc, List.set_append_right _ _ (by rw [e]; exact h0), e, List.set_append_left _ _ (by omega), ← List.append_assoc]
theorem turn_bits {l : List Int} (i : Nat) (h : IsBits l) (hi : i < l.length) : IsBits (turnL l i) := by
  intro x hx
  unfold turnL at hx
  rcases List.mem_or_eq_of_mem_set hx with hx | rfl
  · exact h x hx
  · rw [List.getD_eq_getElem?_getD, List.getElem?_eq_getElem hi]
    rcases h l[i] (List.getElem_mem hi) with e | e <;> simp [e]
/-- One of whose content a bit was turned, and that tells no frame. -/
theorem Line.turned (s : List Int) (i : Nat) (h : Line L W) (h0 : 8 ≤ i) (h1 : i + 8 < (encL s).length) (hg : goods (feedP [] false 0 (turnL (encL s) i)).1 = []) : Line (L ++ (turnL (encL s) i ++ flagL)) W := by
  have hb := (turn_bits i (encL_bits s) (by omega)).append flagL_bits
  have hl : (encL s).length = 8 + (stuffS 0 (ofBits s)).length + 8 := by
    unfold encL
    rw [List.length_append, List.length_append]; rfl
  obtain ⟨c, hc⟩ := turn_mid (stuffS 0 (ofBits s)) flagL i h0 (by omega)
  have hc' : turnL (encL s) i = flagL ++ c ++ flagL := hc
  rw [hc'] at hg hb ⊢
  have := h.more (W' := []) hb (fun w => ⟨_, feedP_two (feed_any_mid c w) (feed_flag_new true), by rw [List.append_nil]; exact hg⟩)
  rw [List.append_nil] at this
  exact this
end
end Go.Proofs.YtlfcfmdblmedcaaGreatDoor.Mine
