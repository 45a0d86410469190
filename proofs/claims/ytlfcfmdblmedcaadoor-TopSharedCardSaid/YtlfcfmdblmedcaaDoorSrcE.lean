/- The contracts of a source's Message, Timeout, List. -/
import Derived.Test.YtlfcfmdblmedcaaDoorSrcD
namespace Go.Proofs.YtlfcfmdblmedcaaDoor.Mine
open Go.RowKit Go.Maps Go.Proofs.YtlfcfmdblmedcaaDoorW.PrintWords

theorem SEfs.mono {B B' : Nat} {w : World} {v : Value} {l : List Ef} (h : SEfs B w v l) (hB : B' ≤ B) : SEfs B' w v l :=
  ⟨h.1, h.2.imp id (fun ⟨g', cap, cur, q1, q2, q3⟩ => ⟨g', cap, cur, q1, Nat.le_trans hB q2, q3⟩)⟩

set_option maxHeartbeats 2000000 in
theorem smsg_req {g gp gm B last n j : Nat} {f : Int → Option CK} (ri : Int) (w : World) (h : SrcAt w g gp gm B last f n) (hj : seek B 63 last = some j) (hE : putE 1 ri 127 = 0) :
    Calls Tryd.prog 40 #[.pointer (some ⟨g, 0, none⟩), .agg #[.int .i64 1, .int .i64 ri, .int .i64 127]] w fun e w' =>
      ∃ v, e = .returned v ∧ SEfs w.heap.size w' v [⟨0, 2, ri, 64 + (j : Int), 0⟩, ⟨1, 0, 0, 0, 64 + (j : Int)⟩] ∧ SrcAt w' g gp gm (orB B j) j f n ∧ Only [gp] w w' := by
  have hg := h.lt.1
  have H := Lib.hid h
  have HJ := Lib.hid hj
  have HE := Lib.hid hE
  clear h hj hE
  go_enter Tryd.func40, Tryd.ntmps40
  go_wp2_with fail
  refine (put_msg 1 ri 127 w).mono ?_
  rintro e w1 ⟨x, rfl, bb, hl0, m0, m1, m2⟩
  rw [HE.out]
  have HS1 := Lib.hid (H.out.below bb)
  have HB1 := Lib.hid bb
  clear bb
  go_wp2_with fail
  refine (request_any ri w1 HS1.out HJ.out).mono ?_
  rintro e w2 ⟨v, rfl, he, hs, hk⟩
  have H2 := Lib.hid he
  have HS2 := Lib.hid hs
  have HK2 := Lib.hid hk
  clear he hs hk
  go_wp2
  go_ret
  exact ⟨v, rfl, H2.out.mono HB1.out.size, HS2.out, (Only.of_below HB1.out [gp]).trans HK2.out⟩

set_option maxHeartbeats 2000000 in
theorem smsg_one {g gp gm B last n : Nat} {f : Int → Option CK} {a k : Int} (ri tei : Int) (w : World) (h : SrcAt w g gp gm B last f n) (ht : 64 ≤ tei ∧ tei ≤ 126) (hf : f tei = some (a, k, 0)) (hn : n < 1000000) (hE : putE 5 ri tei = 0) :
    Calls Tryd.prog 40 #[.pointer (some ⟨g, 0, none⟩), .agg #[.int .i64 5, .int .i64 ri, .int .i64 tei]] w fun e w' =>
      ∃ v, e = .returned v ∧ SEfs w.heap.size w' v [] ∧ SrcAt w' g gp gm B last (chkPut f tei (some (a, k, 1))) (n + 1) ∧ Only [gp, gm] w w' := by
  have hg := h.lt.1
  have H := Lib.hid h
  have HF := Lib.hid hf
  have HE := Lib.hid hE
  have HT := Lib.hid ht
  clear h hf hE ht
  go_enter Tryd.func40, Tryd.ntmps40
  go_wp2_with fail
  refine (put_msg 5 ri tei w).mono ?_
  rintro e w1 ⟨x, rfl, bb, hl0, m0, m1, m2⟩
  rw [HE.out]
  have HS1 := Lib.hid (H.out.below bb)
  have HB1 := Lib.hid bb
  clear bb
  go_wp2_with fail
  refine (response_one tei w1 HS1.out HT.out HF.out hn).mono ?_
  rintro e w2 ⟨rfl, hs, hk⟩
  have HS2 := Lib.hid hs
  have HK2 := Lib.hid hk
  clear hs hk
  go_wp2
  go_ret
  exact ⟨_, rfl, own_nil _ _ _ _, HS2.out, (Only.of_below HB1.out [gp, gm]).trans (HK2.out.mono (by simp))⟩

set_option maxHeartbeats 2000000 in
theorem smsg_two {g gp gm B last n : Nat} {f : Int → Option CK} {a k : Int} (ri tei : Int) (w : World) (h : SrcAt w g gp gm B last f n) (ht : 64 ≤ tei ∧ tei ≤ 126) (hf : f tei = some (a, k, 1)) (hB : hasB B tei = true) (hn : n < 1000000) (hE : putE 5 ri tei = 0) :
    Calls Tryd.prog 40 #[.pointer (some ⟨g, 0, none⟩), .agg #[.int .i64 5, .int .i64 ri, .int .i64 tei]] w fun e w' =>
      ∃ v, e = .returned v ∧ SEfs w.heap.size w' v (twiceL tei) ∧ SrcAt w' g gp gm (freeB B tei) last (chkPut f tei none) (n + 1) ∧ Only [gp, gm] w w' := by
  have hg := h.lt.1
  have H := Lib.hid h
  have HF := Lib.hid hf
  have HE := Lib.hid hE
  have HT := Lib.hid ht
  have HHB := Lib.hid hB
  clear h hf hE ht hB
  go_enter Tryd.func40, Tryd.ntmps40
  go_wp2_with fail
  refine (put_msg 5 ri tei w).mono ?_
  rintro e w1 ⟨x, rfl, bb, hl0, m0, m1, m2⟩
  rw [HE.out]
  have HS1 := Lib.hid (H.out.below bb)
  have HB1 := Lib.hid bb
  clear bb
  go_wp2_with fail
  refine (response_two tei w1 HS1.out HT.out HF.out HHB.out hn).mono ?_
  rintro e w2 ⟨v, rfl, he, hs, hk⟩
  have H2 := Lib.hid he
  have HS2 := Lib.hid hs
  have HK2 := Lib.hid hk
  clear he hs hk
  go_wp2
  go_ret
  exact ⟨v, rfl, H2.out.mono HB1.out.size, HS2.out, (Only.of_below HB1.out [gp, gm]).trans HK2.out⟩

set_option maxHeartbeats 2000000 in
/-- Nothing is under way. -/
theorem stimeout_none {g gp gm B last n : Nat} {f : Int → Option CK} (tei : Int) (w : World) (h : SrcAt w g gp gm B last f n) (ht : 0 ≤ tei ∧ tei ≤ 127) (hf : f tei = none) :
    Calls Tryd.prog 24 #[.pointer (some ⟨g, 0, none⟩), .int .i64 tei] w fun e w' => e = .returned (.slice none 0 0) ∧ SrcAt w' g gp gm B last f n ∧ Only [gm] w w' := by
  have hg := h.lt.1
  have hwf := wf_tei ht
  obtain ⟨c0, c1⟩ := h.cells
  have hlook := h.chk.look tei hwf
  rw [hf] at hlook
  simp only [ckV, Option.getD_none, Option.isSome_none] at hlook
  have H := Lib.hid h
  clear h hf hwf
  go_enter Tryd.func24, Tryd.ntmps24
  go_wp2
  go_ret
  exact ⟨rfl, H.out.below ((Below.refl _ _).alloc (Nat.le_refl _) _), (Only.refl _ _).alloc _⟩

set_option maxHeartbeats 2000000 in
/-- One has answered. -/
theorem stimeout_one {g gp gm B last n : Nat} {f : Int → Option CK} {a : Int} (tei : Int) (w : World) (h : SrcAt w g gp gm B last f n) (ht : 0 ≤ tei ∧ tei ≤ 127) (hf : f tei = some (a, 1, 1)) :
    Calls Tryd.prog 24 #[.pointer (some ⟨g, 0, none⟩), .int .i64 tei] w fun e w' => e = .returned (.slice none 0 0) ∧ SrcAt w' g gp gm B last (chkPut f tei none) n ∧ Only [gm] w w' := by
  have hlt := h.lt
  have hne := h.ne
  have hwf := wf_tei ht
  obtain ⟨c0, c1⟩ := h.cells
  have hlook := h.chk.look tei hwf
  rw [hf] at hlook
  simp only [ckV, Option.getD_some, Option.isSome_some] at hlook
  have hs4 := h.below ((Below.refl _ w).alloc (Nat.le_refl _) (.cells #[.int .i64 a, .int .i64 1, .int .i64 1] 125))
  obtain ⟨d0, d1⟩ := hs4.cells
  have hb := at_new w (.cells #[.int .i64 a, .int .i64 1, .int .i64 1] 125)
  have HS4 := Lib.hid hs4
  have HB := Lib.hid hb
  have HWF := Lib.hid hwf
  clear h hf hwf hs4 hb
  go_enter Tryd.func24, Tryd.ntmps24
  go_wp2_with (at_delete; refine wpList_strike_chk rfl _ _ rfl HS4.out.chk tei rfl rfl HWF.out ?_)
  intro w5 hc5 k5
  have b2 := at_cell (k5.at HB.out (by simp; omega)) 2
  simp at b2
  have hs5 : SrcAt w5 g gp gm B last (chkPut f tei none) n := ⟨k5.at HS4.out.box (by simp; omega), HS4.out.pool.keep k5 (by simp; omega), hc5⟩
  have HS5 := Lib.hid hs5
  have HK5 := Lib.hid (((Only.refl [gm] w).alloc (.cells #[.int .i64 a, .int .i64 1, .int .i64 1] 125)).trans k5)
  clear hc5 k5 hs5 c0 c1 d0 d1 hlook
  go_wp2
  go_ret
  exact ⟨rfl, HS5.out, HK5.out⟩

set_option maxHeartbeats 1000000 in
theorem slist_any {g gp gm B last n : Nat} {f : Int → Option CK} (w : World) (h : SrcAt w g gp gm B last f n) :
    Calls Tryd.prog 25 #[.pointer (some ⟨g, 0, none⟩)] w fun e w' =>
      ∃ A c, e = .returned (.slice A (listB B 63).length c) ∧ Lies w.heap.size w' A c (listB B 63) ∧ Below w.heap.size w w' := by
  obtain ⟨c0, c1⟩ := h.cells
  have hl := list_any w h.pool
  have HL := Lib.hid hl
  clear h hl
  go_enter Tryd.func25, Tryd.ntmps25
  go_wp2_with fail
  refine HL.out.mono ?_
  rintro e w1 ⟨A, c, rfl, h1, -, b1⟩
  have H1 := Lib.hid h1
  have HB1 := Lib.hid b1
  clear h1 b1
  go_wp2
  go_ret
  exact ⟨A, c, rfl, H1.out, HB1.out⟩
end Go.Proofs.YtlfcfmdblmedcaaDoor.Mine
