/- A decoder in memory; the contract of its flag. -/
import Derived.Test.YtlfcfmdblmedcaaGreatDoorTOct
namespace Go.Proofs.YtlfcfmdblmedcaaGreatDoor.Mine
open Go.RowKit Go.Proofs.YtlfcfmdblmedcaaGreatDoorW.PrintWords
attribute [local go_sem] max_int min_int max_of_two min_of_two

/-- A decoder in block g: its content c, in a row of its own behind g. -/
def DecV (w : World) (g : Nat) (v : Value) (c : List Int) (was : Bool) (ones : Int) : Prop :=
  w.heap[g]? = some (.cells #[v, .bool was, .int .i64 ones] 123 (0, 0)) ∧ w.ownsRow (g + 1) 5 1 v c.length (nums .u8 c)
theorem DecV.reset {w : World} {g : Nat} {v : Value} {c : List Int} {was : Bool} {ones : Int} (h : DecV w g v c was ones) (b : Bool) : DecV ((w.setCell ⟨g, 0, none⟩ (.slice none 0 0)).setCell ⟨g, 1, none⟩ (.bool b)) g (.slice none 0 0) [] b ones :=
  ⟨by rw [at_set (at_set h.1 0 _) 1 _]; rfl, own_nil _ _ _ _⟩
theorem DecV.keep {w w' : World} {g : Nat} {v : Value} {c : List Int} {was : Bool} {ones : Int} {S : List Nat} (h : DecV w g v c was ones) (k : Only S w w') (hg : g ∉ S) (hv : ∀ b, v.ownBlock = some b → b ∉ S) : DecV w' g v c was ones := by
  refine ⟨k.at h.1 hg, h.2.1, h.2.2.imp id ?_⟩
  rintro ⟨g', cap, cur, b1, b2, b3, b4⟩
  exact ⟨g', cap, cur, b1, b2, k.at b3 (hv g' (by rw [b1]; rfl)), b4⟩
theorem DecV.below {w w' : World} {g : Nat} {v : Value} {c : List Int} {was : Bool} {ones : Int} (h : DecV w g v c was ones) (b : Below w.heap.size w w') : DecV w' g v c was ones := h.keep (Only.of_below b []) (by simp) (by simp)

/-- What a flag makes of a content. -/
def flagP (c : List Int) (was : Bool) : Option (Int × List Int) :=
  if was = false ∨ c.length ≤ 6 then none else if 2128 < c.length - 6 ∨ (c.length - 6) % 8 ≠ 0 then some (2, []) else some (0, octsL (c.take (c.length - 6)))
def evV : Option (Int × List Int) → Value
  | none => .tuple #[.agg #[.int .i64 0, .string (strOfNums [])], .bool false]
  | some e => .tuple #[.agg #[.int .i64 e.1, .string (strOfNums e.2)], .bool true]
def FlagPost (w : World) (g : Nat) (c : List Int) (was : Bool) (ones : Int) (e : Ending) (w' : World) : Prop := e = .returned (evV (flagP c was)) ∧ DecV w' g (.slice none 0 0) [] true ones ∧ Only [g] w w'

section
variable {w : World} {g : Nat} {v : Value} {c : List Int} {was : Bool} {ones : Int}
set_option maxHeartbeats 1000000 in
set_option maxRecDepth 100000 in
theorem flag_none (h : DecV w g v c was ones) (hl : c.length ≤ 10000) (hn : was = false ∨ c.length ≤ 6) :
    Calls Tryz.prog 85 #[.pointer (some ⟨g, 0, none⟩)] w (FlagPost w g c was ones) := by
  have e : flagP c was = none := if_pos hn
  have E := Lib.hid e
  obtain ⟨A, cp, rfl⟩ := own_slice h.2
  have c0 := at_cell h.1 0
  have c1 := at_cell h.1 1
  have f0 := at_frozen h.1 0
  have f1 := at_frozen h.1 1
  simp at c0 c1
  have hgl := lt_of_at h.1
  have hD := (h.reset true).below ((Below.refl _ _).alloc (Nat.le_refl _) (.cells #[.int .i64 0, .string (strOfNums [])] 93))
  have hK : Only [g] w (((w.setCell ⟨g, 0, none⟩ (.slice none 0 0)).setCell ⟨g, 1, none⟩ (.bool true)).alloc (.cells #[.int .i64 0, .string (strOfNums [])] 93)) :=
    (((Only.refl _ _).setCell (Or.inl (by simp)) _).setCell (Or.inl (by simp)) _).alloc _
  have hb := at_new ((w.setCell ⟨g, 0, none⟩ (.slice none 0 0)).setCell ⟨g, 1, none⟩ (.bool true)) (.cells #[.int .i64 0, .string (strOfNums [])] 93)
  rw [show ((w.setCell ⟨g, 0, none⟩ (.slice none 0 0)).setCell ⟨g, 1, none⟩ (.bool true)).heap.size = w.heap.size by simp [World.setCell]] at hb
  have HD := Lib.hid hD
  have HK := Lib.hid hK
  have HB := Lib.hid hb
  clear h e hD hK hb
  obtain ⟨n, hcn⟩ : ∃ n, c.length = n := ⟨_, rfl⟩
  rw [hcn] at hn hl c0
  clear hcn
  rcases was with _ | _
  · clear hn
    go_enter Tryz.func85, Tryz.ntmps85
    go_wp2
    refine bodyPost_ret (results_ct rfl _ _ w.heap.size 93 #[.int .i64 0, .string (strOfNums [])] (0, 0) _ rfl HB.out Tryz.underlying93 rfl (by kernel_rfl)) rfl ?_
    exact ⟨by rw [E.out]; rfl, HD.out, HK.out⟩
  · have hn2 : (n : Int) - 5 - 1 ≤ 0 := by rcases hn with hn | hn; (exact Bool.noConfusion hn); omega
    clear hn
    go_enter Tryz.func85, Tryz.ntmps85
    go_wp2
    refine bodyPost_ret (results_ct rfl _ _ w.heap.size 93 #[.int .i64 0, .string (strOfNums [])] (0, 0) _ rfl HB.out Tryz.underlying93 rfl (by kernel_rfl)) rfl ?_
    exact ⟨by rw [E.out]; rfl, HD.out, HK.out⟩
set_option maxHeartbeats 1000000 in
set_option maxRecDepth 100000 in
theorem flag_bad (h : DecV w g v c true ones) (hl : c.length ≤ 10000) (h6 : 6 < c.length) (hn : 2128 < c.length - 6 ∨ (c.length - 6) % 8 ≠ 0) :
    Calls Tryz.prog 85 #[.pointer (some ⟨g, 0, none⟩)] w (FlagPost w g c true ones) := by
  have e : flagP c true = some (2, []) := by unfold flagP; rw [if_neg (by intro q; rcases q with q | q; (exact Bool.noConfusion q); omega), if_pos hn]
  have E := Lib.hid e
  obtain ⟨A, cp, rfl⟩ := own_slice h.2
  have c0 := at_cell h.1 0
  have c1 := at_cell h.1 1
  have f0 := at_frozen h.1 0
  have f1 := at_frozen h.1 1
  simp at c0 c1
  have hgl := lt_of_at h.1
  have hD := (h.reset true).below ((Below.refl _ _).alloc (Nat.le_refl _) (.cells #[.int .i64 2, .string (strOfNums [])] 93))
  have hK : Only [g] w (((w.setCell ⟨g, 0, none⟩ (.slice none 0 0)).setCell ⟨g, 1, none⟩ (.bool true)).alloc (.cells #[.int .i64 2, .string (strOfNums [])] 93)) :=
    (((Only.refl _ _).setCell (Or.inl (by simp)) _).setCell (Or.inl (by simp)) _).alloc _
  have hb := at_new ((w.setCell ⟨g, 0, none⟩ (.slice none 0 0)).setCell ⟨g, 1, none⟩ (.bool true)) (.cells #[.int .i64 2, .string (strOfNums [])] 93)
  rw [show ((w.setCell ⟨g, 0, none⟩ (.slice none 0 0)).setCell ⟨g, 1, none⟩ (.bool true)).heap.size = w.heap.size by simp [World.setCell]] at hb
  have HD := Lib.hid hD
  have HK := Lib.hid hK
  have HB := Lib.hid hb
  clear h e hD hK hb
  obtain ⟨n, hcn⟩ : ∃ n, c.length = n := ⟨_, rfl⟩
  rw [hcn] at hn hl c0 h6
  clear hcn
  have q1 : 0 < (n : Int) - 5 - 1 := by omega
  by_cases hn1 : 2128 < (n : Int) - 5 - 1
  · clear hn
    go_enter Tryz.func85, Tryz.ntmps85
    go_wp2
    refine bodyPost_ret (results_ct rfl _ _ w.heap.size 93 #[.int .i64 2, .string (strOfNums [])] (0, 0) _ rfl HB.out Tryz.underlying93 rfl (by kernel_rfl)) rfl ?_
    exact ⟨by rw [E.out]; rfl, HD.out, HK.out⟩
  · have hn2 : (((n : Int) - 5 - 1) % 8 != 0) = true := by
      have : ((n : Int) - 5 - 1) % 8 ≠ 0 := by omega
      simpa using this
    clear hn
    go_enter Tryz.func85, Tryz.ntmps85
    go_wp2
    refine bodyPost_ret (results_ct rfl _ _ w.heap.size 93 #[.int .i64 2, .string (strOfNums [])] (0, 0) _ rfl HB.out Tryz.underlying93 rfl (by kernel_rfl)) rfl ?_
    exact ⟨by rw [E.out]; rfl, HD.out, HK.out⟩

set_option maxHeartbeats 1000000 in
set_option maxRecDepth 100000 in
theorem flag_frame (h : DecV w g v c true ones) (h6 : 6 < c.length) (hn : c.length - 6 ≤ 2128) (h8 : (c.length - 6) % 8 = 0) (hb : IsBits c) :
    Calls Tryz.prog 85 #[.pointer (some ⟨g, 0, none⟩)] w (FlagPost w g c true ones) := by
  have e : flagP c true = some (0, octsL (c.take (c.length - 6))) := by unfold flagP; rw [if_neg (by intro q; rcases q with q | q; (exact Bool.noConfusion q); omega), if_neg (by omega)]
  have E := Lib.hid e
  obtain ⟨-, ho⟩ := id h.2
  rcases ho with ⟨rfl, h0⟩ | ⟨r, cap, cur, rfl, hr1, hr2, hr3, hr4, hr5, hr6⟩
  · omega
  have c0 := at_cell h.1 0
  have c1 := at_cell h.1 1
  have f0 := at_frozen h.1 0
  have f1 := at_frozen h.1 1
  simp at c0 c1
  have hgl := lt_of_at h.1
  obtain ⟨m, hm⟩ : ∃ m, c.length - 6 = m := ⟨_, rfl⟩
  have hmn : c.length = m + 6 := by omega
  -- the world behind the two stores and the box
  have hD := (h.reset true).below ((Below.refl _ _).alloc (Nat.le_refl _) (.cells #[.int .i64 0, .string ⟨#[]⟩] 93))
  have hK : Only [g] w (((w.setCell ⟨g, 0, none⟩ (.slice none 0 0)).setCell ⟨g, 1, none⟩ (.bool true)).alloc (.cells #[.int .i64 0, .string ⟨#[]⟩] 93)) :=
    (((Only.refl _ _).setCell (Or.inl (by simp)) _).setCell (Or.inl (by simp)) _).alloc _
  have hx := at_new ((w.setCell ⟨g, 0, none⟩ (.slice none 0 0)).setCell ⟨g, 1, none⟩ (.bool true)) (.cells #[.int .i64 0, .string ⟨#[]⟩] 93)
  rw [show ((w.setCell ⟨g, 0, none⟩ (.slice none 0 0)).setCell ⟨g, 1, none⟩ (.bool true)).heap.size = w.heap.size by simp [World.setCell]] at hx
  have hrow := hK.at hr2 (by simp; omega)
  have hcv := run_convert_bytes_arg (P := Tryz.prog) (w := ((w.setCell ⟨g, 0, none⟩ (.slice none 0 0)).setCell ⟨g, 1, none⟩ (.bool true)).alloc (.cells #[.int .i64 0, .string ⟨#[]⟩] 93)) 75 5 (by kernel_rfl) (by kernel_rfl) r 0 m cap (c.take m) (by rw [List.length_take]; omega) (fun i hi => by
    rw [at_cell hrow]
    have h1 : (cur.toList.take (c.length * 1))[0 + i]? = cur[0 + i]? := by rw [List.getElem?_take, if_pos (by omega)]; simp
    rw [← h1, hr6]
    simp [nums, List.getD_eq_getElem?_getD, hi, List.getElem?_eq_getElem (show i < c.length by omega)]) 9 (by kernel_rfl)
  have hbt : IsBits (bytesOf (strOfNums (c.take m))) := by
    rw [bytesOf_str _ (fun x hx => by rcases hb x (List.mem_of_mem_take hx) with rfl | rfl <;> omega)]
    exact fun x hx => hb x (List.mem_of_mem_take hx)
  have hby := bytesOf_str (c.take m) (fun x hx => by rcases hb x (List.mem_of_mem_take hx) with rfl | rfl <;> omega)
  have hsz : (strOfNums (c.take m)).size = m := by rw [strOfNums_size, List.length_take]; omega
  have HO := Lib.hid (fun w => octets_any (strOfNums (c.take m)) w (by rw [hsz]; omega) hbt (by rw [hsz, ← hm]; exact h8))
  rw [hm] at e
  have HBY := Lib.hid hby
  have HD := Lib.hid hD
  have HK := Lib.hid hK
  have HX := Lib.hid hx
  have q0 : 0 < (m : Int) := by omega
  have q1 : (m : Int) ≤ 2128 := by omega
  have q2 : (m : Int) % 8 = 0 := by omega
  have q3 : (m : Int) + 6 - 5 - 1 = (m : Int) := by omega
  have q4 : m ≤ cap := by omega
  have HM := Lib.hid hm
  rw [hmn] at c0
  obtain ⟨y, hy⟩ : ∃ y, strOfNums (c.take m) = y := ⟨_, rfl⟩
  rw [hy] at hcv HO HBY
  clear h hr1 hr2 hr3 hr4 hr5 hr6 hD hK hx hrow hbt hby hsz e h6 hn h8 hm hmn hy
  go_enter Tryz.func85, Tryz.ntmps85
  go_wp2_with fail
  refine (HO.out _).mono ?_
  rw [HBY.out]
  rintro e w2 ⟨rfl, b2⟩
  have hx2 := (b2.block _ (lt_of_at HX.out)).trans HX.out
  have x0 := at_cell hx2 0
  have x1 := at_cell hx2 1
  have y0 := at_frozen hx2 0
  have y1 := at_frozen hx2 1
  simp at x0 x1
  have HB2 := Lib.hid b2
  have HX2 := Lib.hid hx2
  clear b2 hx2
  go_wp2
  refine bodyPost_ret (results_ct rfl _ _ w.heap.size 93 #[.int .i64 0, .string (strOfNums (octsL (c.take m)))] (0, 0) _ rfl (by rw [at_set (at_set HX2.out 0 _) 1 _]; rfl) Tryz.underlying93 rfl (by kernel_rfl)) rfl ?_
  refine ⟨by rw [E.out, HM.out]; rfl, ?_, ?_⟩
  · refine ((HD.out.below HB2.out).keep (S := [w.heap.size]) (((Only.refl _ _).setCell (Or.inl (by simp)) _).setCell (Or.inl (by simp)) _) (by simp; omega) (by intro b hb; simp [Value.ownBlock] at hb))
  · exact ((HK.out.trans (Only.of_below HB2.out _)).setCell (Or.inr (by simp)) _).setCell (Or.inr (by simp)) _

theorem flag_any (h : DecV w g v c was ones) (hb : IsBits c) (hl : c.length ≤ 10000) :
    Calls Tryz.prog 85 #[.pointer (some ⟨g, 0, none⟩)] w (FlagPost w g c was ones) := by
  by_cases h1 : was = false ∨ c.length ≤ 6
  · exact flag_none h hl h1
  · have hw : was = true := by cases was; (exact absurd (Or.inl rfl) h1); rfl
    subst hw
    have h6 : 6 < c.length := by omega
    by_cases h2 : 2128 < c.length - 6 ∨ (c.length - 6) % 8 ≠ 0
    · exact flag_bad h hl h6 h2
    · exact flag_frame h h6 (by omega) (by omega) hb
end
end Go.Proofs.YtlfcfmdblmedcaaGreatDoor.Mine
