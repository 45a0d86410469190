/- The contract of lapwingtop.asks. -/
import Derived.Test.YtlfcfmdblmedcaaDoorShA
import Derived.Test.YtlfcfmdblmedcaaDoorOffD
namespace Go.Proofs.YtlfcfmdblmedcaaDoor.Mine
open Go.RowKit Go.Maps Go.Proofs.YtlfcfmdblmedcaaDoorW.PrintWords

theorem reads_none (w : World) : ReadsInt w .i64 none 0 [] := ⟨rfl, by simp, fun h => by omega⟩
theorem src_sr {w : World} {d r : Nat} {p : Pn} (h : Src w d r p.1 p.2) (hr : r < w.heap.size) : Sr w w.heap.size (some (d, r)) p :=
  ⟨h, by have := h.lt; show w.heap.size ≠ d; omega, by show w.heap.size ≠ r; omega⟩
theorem view_lit {g : Nat} {D : Dr} {most tei ri tries : Int} {asking : Bool} {p : Pn} (w : World) (h : UAt w g D most ⟨tei, asking, ri, tries⟩ p) :
    Calls Tryd.prog 21 #[.pointer (some ⟨g, 0, none⟩)] w fun e w' => e = .returned (.agg #[.int .i64 tei, .bool asking, .int .i64 ri, .int .i64 tries]) ∧ Below w.heap.size w w' := view_any w h
theorem field_tei {tei ri tries : Int} {asking : Bool} (W : World) : (Instr.field 68 (.agg #[.int .i64 tei, .bool asking, .int .i64 ri, .int .i64 tries]) 0).run Tryd.prog W = .ok (.int .i64 tei) W := by kernel_rfl
theorem field_ri {tei ri tries : Int} {asking : Bool} (W : World) : (Instr.field 68 (.agg #[.int .i64 tei, .bool asking, .int .i64 ri, .int .i64 tries]) 2).run Tryd.prog W = .ok (.int .i64 ri) W := by kernel_rfl
theorem UAt.far {w w' : World} {g d r : Nat} {most : Int} {s : US} {p : Pn} {S : List Nat} (h : UAt w g (some (d, r)) most s p) (k : Only S w w') (hS : ∀ x ∈ S, x ≠ g ∧ x ≠ d ∧ x ≠ r) : UAt w' g (some (d, r)) most s p :=
  h.away k (fun hm => (hS _ hm).1 rfl) (fun hm => (hS _ hm).2.1 rfl) (fun hm => (hS _ hm).2.2 rfl)

set_option maxHeartbeats 4000000 in
set_option maxRecDepth 100000 in
theorem asks_any (w : World) (hT : Tabs w) : Calls Tryd.prog 14 #[] w fun e w' => e = .returned (.bool true) ∧ Below w.heap.size w w' := by
  have HT := Lib.hid hT
  clear hT
  have hf0 := fun (tei ri tries : Int) (asking : Bool) W => field_tei (tei := tei) (ri := ri) (tries := tries) (asking := asking) W
  go_enter Tryd.func14, Tryd.ntmps14
  go_wp2_with fail
  refine (srcNew_any _).mono ?_
  rintro e w1 ⟨g, gp, gm, rfl, hs1, g1, g2, g3, b1⟩
  have HS1 := Lib.hid hs1
  have HB1 := Lib.hid b1
  have hlt := hs1.lt
  have hne := hs1.ne
  clear hs1 b1
  go_wp2_with fail
  refine (drawNew_any 1 _ (reads_none _) (by decide)).mono ?_
  rintro e w2 ⟨d, r, rfl, hd, hr, hr2, hsd, b2⟩
  have hs2 := src_sr (p := ([], 1)) hsd hr2
  have HSD := Lib.hid hs2
  have HB2 := Lib.hid (HB1.out.trans (b2.mono HB1.out.size))
  have HS2 := Lib.hid (HS1.out.below b2)
  have hdl := hsd.lt
  clear hs2 hsd b2
  go_wp2_with fail
  refine (new_any (D := some (d, r)) (p := ([], 1)) 1 _ HSD.out).mono ?_
  rintro e w3 ⟨rfl, hu3, b3⟩
  have HU3 := Lib.hid hu3
  have HB3 := Lib.hid (HB2.out.trans (b3.mono HB2.out.size))
  have HS3 := Lib.hid (HS2.out.below b3)
  have hw2 : w.heap.size ≤ w2.heap.size := HB2.out.size
  obtain ⟨gU, hgU⟩ : ∃ gU, w2.heap.size = gU := ⟨_, rfl⟩
  rw [hgU] at HU3 ⊢
  have hgl := HU3.out.lt
  clear hu3 b3
  go_wp2_with fail
  refine (want_any _ HU3.out).mono ?_
  have e1 : uWant (some (d, r)) uIdle ([], 1) = ⟨(uAsk (some (d, r)) ([], 1) 1).1, 0, (uAsk (some (d, r)) ([], 1) 1).2.1, (uAsk (some (d, r)) ([], 1) 1).2.2⟩ := rfl
  rw [e1]
  have hri := dnxt_range (some (d, r)) ([], 1)
  unfold uAsk
  obtain ⟨⟨ri, p4⟩, hdn⟩ : ∃ x, dnxt (some (d, r)) ([], 1) = x := ⟨_, rfl⟩
  rw [hdn] at hri ⊢
  dsimp only at hri ⊢
  rintro e w4 ⟨v4, rfl, d4, u4, k4⟩
  obtain ⟨A4, c4, rfl, hv4⟩ := d4
  rcases hv4 with h0 | ⟨b4, rfl, hb4, hbx⟩
  · simp at h0
  have hS4 : SrcAt w4 g gp gm 0 62 (fun _ => none) 0 := HS3.out.keep k4 (by simp [uset, dset]; omega) (by simp [uset, dset]; omega) (by simp [uset, dset]; omega)
  have hB4 : Below w.heap.size w w4 := HB3.out.trans (k4.below HB3.out.size (by simp [uset, dset]; omega))
  have HS4 := Lib.hid hS4
  have HB4 := Lib.hid hB4
  have HU4 := Lib.hid u4
  have HBX4 := Lib.hid hbx
  clear u4 k4 hbx hS4 hB4 e1 hdn
  go_wp2_with fail
  refine (reads_any _ (HT.out.below HB4.out)).mono ?_
  rintro e w5 ⟨rfl, b5⟩
  have HB5 := Lib.hid (HB4.out.trans (b5.mono HB4.out.size))
  have HS5 := Lib.hid (HS4.out.below b5)
  have HU5 := Lib.hid (HU4.out.below b5)
  have hbx5 : w5.heap[b4]? = _ := (b5.block _ (lt_of_at HBX4.out)).trans HBX4.out
  have x1 := at_cell hbx5 1
  have x2 := at_cell hbx5 2
  have x3 := at_cell hbx5 3
  have xl := lt_of_at hbx5
  simp [efCells, Ef.vals] at x1 x2 x3
  have HBX5 := Lib.hid hbx5
  clear b5 hbx5
  go_wp2_with fail
  refine (smsg_req (j := 0) ri _ HS5.out (by decide) (putE_in (by omega) (by omega) hri.1 hri.2 (by omega) (by omega))).mono ?_
  rintro e w6 ⟨v6, rfl, q1, q2, q3⟩
  have hU6 := HU5.out.far q3 (by intro x hx; simp at hx; subst hx; omega)
  have HU6 := Lib.hid hU6
  have HB6 := Lib.hid (HB5.out.trans (q3.below HB5.out.size (by simp; omega)))
  obtain ⟨rv, cv, rfl⟩ := own_none q1 (by simp)
  have y1 := own_at q1 1 _ rfl
  have y2 := own_at q1 2 _ rfl
  have y3 := own_at q1 3 _ rfl
  clear q1 q2 q3 hU6 x1 x2 x3
  go_wp2_with fail
  refine (message_any 2 ri 64 _ HU6.out).mono ?_
  have e2 : uMsg (some (d, r)) ⟨-1, true, ri, 1⟩ p4 2 ri 64 = ⟨[⟨5, 0, 0, 0, 0⟩, ⟨1, 0, 0, 0, 64⟩], 0, ⟨64, false, 0, 0⟩, p4⟩ := by
    unfold uMsg
    rw [if_neg (by rw [putE_in (by omega) (by omega) hri.1 hri.2 (by omega) (by omega)]; simp), if_pos ⟨rfl, rfl, rfl, by omega, by omega⟩]
  rw [e2]
  rintro e w7 ⟨v7, rfl, d7, u7, k7⟩
  have HU7 := Lib.hid u7
  have HB7 := Lib.hid (HB6.out.trans (k7.below HB6.out.size (by simp [uset, dset]; omega)))
  clear d7 u7 k7 y1 y2 y3 e2
  go_wp2_with fail
  refine (view_lit _ HU7.out).mono ?_
  rintro e w8 ⟨rfl, b8⟩
  have HB8 := Lib.hid (HB7.out.trans (b8.mono HB7.out.size))
  clear b8
  go_wp2
  go_ret
  exact ⟨rfl, HB8.out⟩
end Go.Proofs.YtlfcfmdblmedcaaDoor.Mine
