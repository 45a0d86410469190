/- The contracts of a source's response, Message, Timeout, List, Audit. -/
import Derived.Test.YtlfcfmdblmedcaaDoorSrcC
import Derived.Deep.RegionHeld3
namespace Go.Proofs.YtlfcfmdblmedcaaDoor.Mine
open Go.RowKit Go.Maps Go.Proofs.YtlfcfmdblmedcaaDoorW.PrintWords

set_option maxHeartbeats 4000000 in
theorem response_one {g gp gm B last n : Nat} {f : Int → Option CK} {a k : Int} (tei : Int) (w : World) (h : SrcAt w g gp gm B last f n) (ht : 64 ≤ tei ∧ tei ≤ 126) (hf : f tei = some (a, k, 0)) (hn : n < 1000000) :
    Calls Tryd.prog 65 #[.pointer (some ⟨g, 0, none⟩), .int .i64 tei] w fun e w' =>
      e = .returned (.slice none 0 0) ∧ SrcAt w' g gp gm B last (chkPut f tei (some (a, k, 1))) (n + 1) ∧ Only [gm] w w' := by
  have hne := h.ne
  have hlt := h.lt
  have hwf := wf_tei (tei := tei) (by omega)
  obtain ⟨c0, c1⟩ := h.cells
  have hlook := h.chk.look tei hwf
  rw [hf] at hlook
  simp only [ckV, Option.getD_some, Option.isSome_some] at hlook
  have k2 := ((Only.refl [] w).alloc (.cells #[.int .i64 a, .int .i64 k, .int .i64 1] 125)).drew
  obtain ⟨w5, hrun, hc5, k5⟩ := (h.chk.keep k2 (by simp)).store tei hwf (a, k, 1) (by unfold maxLen; omega)
  simp only [ckV] at hrun
  have hb := at_new w (.cells #[.int .i64 a, .int .i64 k, .int .i64 1] 125)
  have hb5 : w5.heap[w.heap.size]? = _ := k5.at (w := (w.alloc (.cells #[.int .i64 a, .int .i64 k, .int .i64 1] 125)).drew) hb (by simp; omega)
  have b2 := at_cell hb5 2
  simp at b2
  have hs5 : SrcAt w5 g gp gm B last (chkPut f tei (some (a, k, 1))) (n + 1) := ⟨k5.at (k2.at h.box (by simp)) (by simp; omega), (h.pool.keep k2 (by simp)).keep k5 (by simp; omega), hc5⟩
  have HS5 := Lib.hid hs5
  have HK5 := Lib.hid ((k2.mono (S' := [gm]) (by simp)).trans k5)
  clear hc5 k5 k2 hb hb5 hs5 hf hwf h
  go_enter Tryd.func65, Tryd.ntmps65
  go_wp2_with fail
  go_region
  all_goals
    go_wp2
    go_ret
    exact ⟨rfl, HS5.out, HK5.out⟩
theorem chkPut_twice (f : Int → Option CK) (x : Int) (c d : Option CK) : chkPut (chkPut f x c) x d = chkPut f x d := by
  funext y
  unfold chkPut
  by_cases e : y = x
  · simp [e]
  · simp [e]
theorem chkPut_at (f : Int → Option CK) (x : Int) (c : Option CK) : chkPut f x c x = c := if_pos rfl
/-- What a source tells of a TEI that two have. -/
def twiceL (tei : Int) : List Ef := [⟨0, 6, 0, tei, 0⟩, ⟨0, 6, 0, tei, 0⟩, ⟨4, 0, 0, 0, tei⟩, ⟨2, 0, 0, 0, tei⟩]
set_option maxHeartbeats 4000000 in
theorem response_two {g gp gm B last n : Nat} {f : Int → Option CK} {a k : Int} (tei : Int) (w : World) (h : SrcAt w g gp gm B last f n) (ht : 64 ≤ tei ∧ tei ≤ 126) (hf : f tei = some (a, k, 1)) (hB : hasB B tei = true) (hn : n < 1000000) :
    Calls Tryd.prog 65 #[.pointer (some ⟨g, 0, none⟩), .int .i64 tei] w fun e w' =>
      ∃ v, e = .returned v ∧ SEfs w.heap.size w' v (twiceL tei) ∧ SrcAt w' g gp gm (freeB B tei) last (chkPut f tei none) (n + 1) ∧ Only [gp, gm] w w' := by
  have hne := h.ne
  have hlt := h.lt
  have hwf := wf_tei (tei := tei) (by omega)
  obtain ⟨c0, c1⟩ := h.cells
  have hlook := h.chk.look tei hwf
  rw [hf] at hlook
  simp only [ckV, Option.getD_some, Option.isSome_some] at hlook
  have k2 := ((Only.refl [] w).alloc (.cells #[.int .i64 a, .int .i64 k, .int .i64 2] 125)).drew
  obtain ⟨w5, hrun, hc5, k5⟩ := (h.chk.keep k2 (by simp)).store tei hwf (a, k, 2) (by unfold maxLen; omega)
  simp only [ckV] at hrun
  have hb := at_new w (.cells #[.int .i64 a, .int .i64 k, .int .i64 2] 125)
  have hb5 : w5.heap[w.heap.size]? = _ := k5.at (w := (w.alloc (.cells #[.int .i64 a, .int .i64 k, .int .i64 2] 125)).drew) hb (by simp; omega)
  have b2 := at_cell hb5 2
  simp at b2
  have hs5 : SrcAt w5 g gp gm B last (chkPut f tei (some (a, k, 2))) (n + 1) := ⟨k5.at (k2.at h.box (by simp)) (by simp; omega), (h.pool.keep k2 (by simp)).keep k5 (by simp; omega), hc5⟩
  have hrem := remove_any tei w5 hs5 ht (chkPut_at f tei _) hB
  rw [chkPut_twice] at hrem
  have HREM := Lib.hid hrem
  have HK5 := Lib.hid ((k2.mono (S' := [gm]) (by simp)).trans k5)
  clear hc5 k5 k2 hb hb5 hs5 hf hwf h hrem
  go_enter Tryd.func65, Tryd.ntmps65
  go_wp2_with fail
  go_region
  all_goals
    go_wp2_with fail
    refine HREM.out.mono ?_
    rintro e w6 ⟨v, rfl, he, hs, hk⟩
    have H6 := Lib.hid he
    have HS6 := Lib.hid hs
    have HK6 := Lib.hid hk
    clear he hs hk
    go_wp2
    go_ret
    refine ⟨v, rfl, ?_, HS6.out, (HK5.out.mono (by simp)).trans HK6.out⟩
    exact ⟨H6.out.1, H6.out.2.imp id (fun ⟨g', cap, cur, q1, q2, q3⟩ => ⟨g', cap, cur, q1, Nat.le_trans HK5.out.size q2, q3⟩)⟩
end Go.Proofs.YtlfcfmdblmedcaaDoor.Mine
