/- The contract of lapwingtop.reads. -/
import Derived.Test.YtlfcfmdblmedcaaGreatDoorTFrameGet
import Derived.Test.YtlfcfmdblmedcaaGreatDoorTRound
namespace Go.Proofs.YtlfcfmdblmedcaaGreatDoor.Mine
open Go.RowKit Go.Proofs.YtlfcfmdblmedcaaGreatDoorW.PrintWords
attribute [local go_sem] max_int min_int max_of_two min_of_two

theorem and0 : bits .and .i64 0 127 = 0 := by decide
theorem cut_a : (⟨#[97]⟩ : ByteArray).extract 0 1 = ⟨#[97]⟩ := by decide
set_option maxHeartbeats 2000000 in
set_option maxRecDepth 100000 in
theorem made_text (w : World) :
    Calls Tryz.prog 27 #[.agg #[.int .i64 0, .int .i64 0, .int .i64 0, .bool false, .string ⟨#[97]⟩]] w fun e w' => e = .returned (frV 0 0 0 false ⟨#[97]⟩) ∧ Below w.heap.size w w' := by
  have h0 := and0
  have h1 := cut_a
  go_enter Tryz.func27, Tryz.ntmps27
  go_wp2_with (go_at_call 57; refine (numbered_any _ _).mono ?_; rintro e w1 ⟨rfl, rfl⟩)
  refine bodyPost_ret (results_cell_row rfl _ _ (w.heap.size + 1) 66 #[.int .i64 0, .int .i64 64, .bool true, .int .i64 0, .bool false, .int .i64 0, .int .i64 0, .string ⟨#[97]⟩] (0, 0) _ rfl (at_alloc (at_alloc (made_box w _ _) _) _) Tryz.underlying66 rfl (by kernel_rfl)) rfl ?_
  refine ⟨rfl, ?_⟩
  exact ((((Below.refl _ _).alloc (Nat.le_refl _) _).alloc (by simp) _).alloc (by simp; omega) _).alloc (by simp; omega) _

/-- A frame of made's, its octets and their bits, as the code's functions tell them. -/
structure Sent (k ns nr : Int) (p : Bool) (info : ByteArray) (s : List Int) (y z : ByteArray) : Prop where
  put : ∀ W, Tabs W → Calls Tryz.prog 26 #[frV k ns nr p info, .bool false] W fun e w' => e = .returned (.tuple #[.string y, .int .i64 0]) ∧ Below W.heap.size W w'
  enc : ∀ W, Calls Tryz.prog 30 #[.string y] W fun e w' => e = .returned (.string z) ∧ Below W.heap.size W w'
  get : ∀ W, Tabs W → Calls Tryz.prog 31 #[.string y, .bool false] W fun e w' => e = .returned (.tuple #[frV k ns nr p info, .int .i64 0]) ∧ Below W.heap.size W w'
  octets : strOfNums s = y
  range : ∀ x ∈ s, 0 ≤ x ∧ x ≤ 255
  length : 0 < s.length ∧ s.length ≤ 266
  bits : bytesOf z = encL s
  size : z.size ≤ 5000
  least : 17 ≤ z.size
  one : s = putL k ns nr p (bytesOf info)
theorem stuffS_least : ∀ (l : List Int) (o : Int), l.length ≤ (stuffS o l).length
  | [], o => by simp
  | x :: l, o => by
    unfold stuffS
    split
    · split
      · have := stuffS_least l 0; simp; omega
      · have := stuffS_least l (o + 1); simp; omega
    · have := stuffS_least l 0; simp; omega
theorem sent_any {k ns nr : Int} (p : Bool) {info : ByteArray} (h : FrOk k ns nr info) : ∃ s y z, Sent k ns nr p info s y z := by
  obtain ⟨r1, r2, r3⟩ := put_range p h
  have hround := frame_round p h
  obtain ⟨s, hs⟩ : ∃ s, putL k ns nr p (bytesOf info) = s := ⟨_, rfl⟩
  have hbs : bytesOf (strOfNums s) = s := bytesOf_str s (by rw [← hs]; exact r1)
  have hsz : (strOfNums s).size ≤ 266 := by rw [strOfNums_size, ← hs]; exact r3
  have heb : bytesOf (strOfNums (encL s)) = encL s := bytesOf_str _ (fun x hx => by rcases encL_bits s x hx with rfl | rfl <;> omega)
  have hlen : (encL s).length = 16 + (stuffS 0 (ofBits s)).length := by
    unfold encL
    rw [List.length_append, List.length_append]
    show 8 + _ + 8 = _
    omega
  have h1 := stuffS_length (ofBits s) 0
  have h2 := stuffS_least (ofBits s) 0
  rw [ofBits_length] at h1 h2
  rw [hs] at r1 r2 r3 hround
  refine ⟨s, strOfNums s, strOfNums (encL s), ⟨?_, ?_, ?_, rfl, r1, ⟨r2, r3⟩, heb, ?_, ?_, hs.symm⟩⟩
  · intro W hW
    rw [← hs]
    exact fput_any k ns nr p info W hW h.1 h.2.1 h.2.2.1 (by have := h.2.2.2.2.2.2; omega) h.2.2.2.2.2.1
  · intro W
    have := encode_any (strOfNums s) W (by omega)
    rw [hbs] at this
    exact this
  · intro W hW
    have hg := frameget_any (strOfNums s) W (by omega) hW
    rw [hbs, hround] at hg
    refine hg.mono ?_
    rintro e w' ⟨rfl, b⟩
    exact ⟨by simp only [str_bytes]; rfl, b⟩
  · rw [strOfNums_size, hlen]; omega
  · rw [strOfNums_size, hlen]; omega

set_option maxHeartbeats 2000000 in
set_option maxRecDepth 100000 in
theorem reads_any (w : World) (hT : Tabs w) : Calls Tryz.prog 16 #[] w fun e w' => e = .returned (.bool true) ∧ Below w.heap.size w w' := by
  obtain ⟨s, y, z, hS⟩ := sent_any (k := 0) (ns := 0) (nr := 0) false (info := ⟨#[97]⟩) ⟨Or.inl rfl, by decide, by decide, by decide, by decide, Or.inl rfl, by decide⟩
  have HS := Lib.hid hS
  have HT := Lib.hid hT
  clear hS hT
  go_enter Tryz.func16, Tryz.ntmps16
  go_wp2_with fail
  refine (made_text _).mono ?_
  rintro e w1 ⟨rfl, b1⟩
  have HB1 := Lib.hid b1
  have HT1 := Lib.hid (HT.out.below b1)
  clear b1
  unfold frV
  go_wp2_with fail
  refine (HS.out.put _ HT1.out).mono ?_
  rintro e w2 ⟨rfl, b2⟩
  have HB2 := Lib.hid (HB1.out.trans (b2.mono HB1.out.size))
  have HT2 := Lib.hid (HT1.out.below b2)
  clear b2
  go_wp2_with fail
  refine (newdec_any _).mono ?_
  rintro e w3 ⟨rfl, d3, b3⟩
  have HB3 := Lib.hid (HB2.out.trans (b3.mono HB2.out.size))
  have HT3 := Lib.hid (HT2.out.below b3)
  have HD3 := Lib.hid d3
  clear b3 d3
  go_wp2_with fail
  refine (HS.out.enc _).mono ?_
  rintro e w4 ⟨rfl, b4⟩
  have HB4 := Lib.hid (HB3.out.trans (b4.mono HB3.out.size))
  have HT4 := Lib.hid (HT3.out.below b4)
  have HD4 := Lib.hid (HD3.out.below b4)
  clear b4
  go_wp2_with fail
  refine (feed_any (N := 0) z HD4.out ⟨fun x hx => by simp at hx, by decide, by decide, by decide⟩ (by decide) (by have := HS.out.size; omega) (by rw [HS.out.bits]; exact encL_bits s)).mono ?_
  rw [HS.out.bits, feed_enc s false HS.out.range HS.out.length]
  rintro e w5 ⟨ov, v5, rfl, o5, d5, k5, -⟩
  have o5' : w5.ownsRow w4.heap.size 93 2 ov 1 [.int .i64 0, .string y] := by
    have := o5
    simp only [evCells, HS.out.octets] at this
    exact this
  have h5 : Below w.heap.size w w5 := HB4.out.trans (k5.below HB4.out.size (by
    intro x hx
    simp [Value.ownBlock] at hx
    subst hx
    exact HB2.out.size))
  have HT5 := Lib.hid (HT.out.below h5)
  have HB5 := Lib.hid h5
  rcases o5'.2 with ⟨rfl, h0⟩ | ⟨r, cap, cur, rfl, hr⟩
  · simp at h0
  have e1 := o5'.cells (g := r) rfl 1 (.string y) rfl
  have e1' : w5.cell? ⟨r, 1, none⟩ = some (.string y) := e1
  clear o5 d5 k5 e1 hr o5' h5
  go_wp2_with fail
  refine (HS.out.get _ HT5.out).mono ?_
  rintro e w6 ⟨rfl, b6⟩
  have HB6 := Lib.hid ((HB5.out.trans (b6.mono HB5.out.size)).alloc (HB5.out.trans (b6.mono HB5.out.size)).size (.cells #[.int .i64 0, .int .i64 64, .bool true, .int .i64 0, .bool false, .int .i64 0, .int .i64 0, .string ⟨#[97]⟩] 66))
  clear b6
  unfold frV
  go_wp2
  go_ret
  exact ⟨rfl, HB6.out⟩
end Go.Proofs.YtlfcfmdblmedcaaGreatDoor.Mine
