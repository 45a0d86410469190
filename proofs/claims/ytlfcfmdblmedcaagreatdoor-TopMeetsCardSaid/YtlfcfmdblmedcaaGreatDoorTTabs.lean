/- From the row's listed variables to what the walks ask of ctrl's tables. -/
import Derived.Test.YtlfcfmdblmedcaaGreatDoorTCtrl
import Derived.Test.YtlfcfmdblmedcaaGreatDoorRows
import Derived.Lib.LaidU8
import Derived.OpenShut
namespace Go.Proofs.YtlfcfmdblmedcaaGreatDoor.Mine
open Go.RowKit Go.Lib Go.Proofs.YtlfcfmdblmedcaaGreatDoorW.PrintWords

theorem gFirst : Tryz.prog.globalNamed "lapwing/ctrl.first" = some 0 := by kernel_rfl
theorem gNames : Tryz.prog.globalNamed "lapwing/ctrl.names" = some 1 := by kernel_rfl
theorem tyFirst : (Tryz.prog.globals[0]?).map (·.type) = some 140 := by kernel_rfl
theorem tyNames : (Tryz.prog.globals[1]?).map (·.type) = some 157 := by kernel_rfl
theorem cellsU8 : Tryz.prog.cellsOf 5 = 1 := by kernel_rfl
theorem cellsStr : Tryz.prog.cellsOf 9 = 1 := by kernel_rfl

set_option maxRecDepth 100000 in
theorem tabs_of_laid {W : World} (h1 : VarReads Tryz.prog W "lapwing/ctrl.first" Rows.laid_lapwing_ctrl_first) (h2 : VarReads Tryz.prog W "lapwing/ctrl.names" Rows.laid_lapwing_ctrl_names) : Tabs W := by
  refine ⟨fun i hi => ?_, fun i hi => ?_⟩
  · obtain ⟨g, t, cs, fuel, p, hg, hty, hvar, hd⟩ := h1
    obtain rfl := Option.some.inj (gFirst.symm.trans hg)
    obtain rfl := Option.some.inj (tyFirst.symm.trans hty)
    obtain ⟨f', d, q, hdi, he⟩ := array_elem Tryz.underlying140 hd i hi
    rw [cellsU8, Nat.mul_one] at he
    obtain ⟨z, hc, hdq, -⟩ := DataW.trod_int Tryz.underlying5 he
    obtain ⟨rfl, rfl⟩ := Prod.mk.inj hdq
    rw [World.var?_cell hg hvar i, ← Array.getElem?_toList]
    have h0 : cs.toList[i]? = some (.int .u8 z) := by
      have := congrArg (·[0]?) hc
      simpa [List.getElem?_take, List.getElem?_drop] using this
    rw [h0]
    have hz : z = firstT.getD i 0 := by
      rcases (show i = 0 ∨ i = 1 ∨ i = 2 ∨ i = 3 ∨ i = 4 ∨ i = 5 ∨ i = 6 ∨ i = 7 ∨ i = 8 ∨ i = 9 by omega) with rfl | rfl | rfl | rfl | rfl | rfl | rfl | rfl | rfl | rfl <;> (simp at hdi; simpa [firstT] using hdi.symm)
    rw [hz]
  · obtain ⟨g, t, cs, fuel, p, hg, hty, hvar, hd⟩ := h2
    obtain rfl := Option.some.inj (gNames.symm.trans hg)
    obtain rfl := Option.some.inj (tyNames.symm.trans hty)
    obtain ⟨f', d, q, hdi, he⟩ := array_elem Tryz.underlying157 hd i hi
    rw [cellsStr, Nat.mul_one] at he
    obtain ⟨z, hc, hdq, -⟩ := DataW.trod_string Tryz.underlying9 he
    obtain ⟨rfl, rfl⟩ := Prod.mk.inj hdq
    rw [World.var?_cell hg hvar i, ← Array.getElem?_toList]
    have h0 : cs.toList[i]? = some (.string z) := by
      have := congrArg (·[0]?) hc
      simpa [List.getElem?_take, List.getElem?_drop] using this
    rw [h0]
    have hz : z = strOfNums (namesT.getD i []) := by
      rcases (show i = 0 ∨ i = 1 ∨ i = 2 ∨ i = 3 ∨ i = 4 ∨ i = 5 ∨ i = 6 ∨ i = 7 ∨ i = 8 ∨ i = 9 by omega) with rfl | rfl | rfl | rfl | rfl | rfl | rfl | rfl | rfl | rfl <;> (simp at hdi; apply ByteArray.ext; apply Array.toList_inj.1; rw [← hdi]; decide)
    rw [hz]
end Go.Proofs.YtlfcfmdblmedcaaGreatDoor.Mine
