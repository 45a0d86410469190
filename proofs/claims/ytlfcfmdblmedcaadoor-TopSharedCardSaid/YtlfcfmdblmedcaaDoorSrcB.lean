/- The contracts of a source's request, remove, response. -/
import Derived.Test.YtlfcfmdblmedcaaDoorSrc
import Derived.Deep.RegionWith
import Derived.RegionTactic
namespace Go.Proofs.YtlfcfmdblmedcaaDoor.Mine
open Go.RowKit Go.Maps Go.Proofs.YtlfcfmdblmedcaaDoorW.PrintWords

theorem msg_box {w w1 : World} {t ri ai : Int} (b1 : Below (w.alloc (.cells #[.int .i64 t, .int .i64 ri, .int .i64 ai] 73)).heap.size (w.alloc (.cells #[.int .i64 t, .int .i64 ri, .int .i64 ai] 73)) w1) :
    w1.heap[w.heap.size]? = some (.cells #[.int .i64 t, .int .i64 ri, .int .i64 ai] 73 (0, 0)) := (b1.block _ (lt_of_at (at_new w _))).trans (at_new w _)

set_option maxHeartbeats 2000000 in
theorem request_any {g gp gm B last n j : Nat} {f : Int → Option CK} (ri : Int) (w : World) (h : SrcAt w g gp gm B last f n) (hj : seek B 63 last = some j) :
    Calls Tryd.prog 64 #[.pointer (some ⟨g, 0, none⟩), .agg #[.int .i64 1, .int .i64 ri, .int .i64 127]] w fun e w' =>
      ∃ v, e = .returned v ∧ SEfs w.heap.size w' v [⟨0, 2, ri, 64 + (j : Int), 0⟩, ⟨1, 0, 0, 0, 64 + (j : Int)⟩] ∧ SrcAt w' g gp gm (orB B j) j f n ∧ Only [gp] w w' := by
  have hT : asgT B last = 64 + (j : Int) := by unfold asgT; rw [hj]
  have hE : asgE B last = 0 := by unfold asgE; rw [hj]
  have hB : asgB B last = orB B j := by unfold asgB; rw [hj]
  have hL : asgL B last = j := by unfold asgL; rw [hj]
  have hne := h.ne
  have hlt := h.lt
  have H := Lib.hid h
  clear h hj
  go_enter Tryd.func64, Tryd.ntmps64
  go_wp2_with fail
  refine (ssaid_any _ _ _ _).mono ?_
  rintro e w1 ⟨rfl, b1⟩
  have hx := msg_box b1
  have m1 := at_cell hx 1
  have m2 := at_cell hx 2
  simp at m1 m2
  have hxl := lt_of_at hx
  have hb1 : Below w.heap.size w w1 := ((Below.refl _ w).alloc (Nat.le_refl _) (.cells #[.int .i64 1, .int .i64 ri, .int .i64 127] 73)).trans (b1.mono (by simp))
  have hsx := H.out.below (hb1.alloc hb1.size (.cells #[.int .i64 0, .int .i64 3, .int .i64 ri, .int .i64 127, .int .i64 0] 105))
  obtain ⟨c0, c1⟩ := hsx.cells
  have HSX := Lib.hid hsx
  have HX := Lib.hid (at_alloc hx (.cells #[.int .i64 0, .int .i64 3, .int .i64 ri, .int .i64 127, .int .i64 0] 105))
  have HB1 := Lib.hid (hb1.alloc hb1.size (.cells #[.int .i64 0, .int .i64 3, .int .i64 ri, .int .i64 127, .int .i64 0] 105))
  clear b1 hx hb1 hsx
  go_wp2_with fail
  refine (assign_any _ HSX.out.pool).mono ?_
  rw [hT, hE, hB, hL]
  rintro e w2 ⟨rfl, hp2, k2⟩
  have hx2 : w2.heap[w.heap.size]? = _ := k2.at HX.out (by simp; omega)
  have m1' := at_cell hx2 1
  simp at m1'
  have HX2 := Lib.hid hx2
  have HP2 := Lib.hid hp2
  have HK2 := Lib.hid k2
  have hxl2 := lt_of_at hx2
  clear hx2 hp2 k2 m1 m2 c0 c1
  go_wp2_with fail
  refine (ssaid_any _ _ _ _).mono ?_
  rintro e w3 ⟨rfl, b3⟩
  have HB3 := Lib.hid b3
  clear b3 m1'
  go_wp2
  go_ret
  have k23 : Only [gp] _ w3 := (HK2.out.trans (Only.of_below HB3.out [gp]))
  have kk : Only [gp] w w3 := (Only.mono (Only.mk HB1.out.os HB1.out.tape HB1.out.output HB1.out.size (fun k hk _ => HB1.out.block k hk)) (S := []) (by simp)).trans k23
  refine ⟨_, rfl, own_lit rfl rfl kk.size (by decide), ?_, kk.alloc _⟩
  have hs2 : SrcAt w2 g gp gm (orB B j) j f n := ⟨HK2.out.at HSX.out.box (by simp; omega), HP2.out, HSX.out.chk.keep HK2.out (by simp; omega)⟩
  exact (hs2.below HB3.out).below ((Below.refl _ _).alloc (Nat.le_refl _) _)
end Go.Proofs.YtlfcfmdblmedcaaDoor.Mine
