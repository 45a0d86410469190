/- A link's queue and numbers while no payload is there: queue's and flow's methods. -/
import Derived.Test.YtlfcfmdblmedcaaGreatDoorMRuns
import Derived.Deep.QuietTactic
import Derived.BigQuiet
import Derived.Deep.RegionHeld3
namespace Go.Proofs.YtlfcfmdblmedcaaGreatDoor.Mine
open Go.RowKit Go.Proofs.YtlfcfmdblmedcaaGreatDoorW.PrintWords
attribute [local go_sem] max_int min_int max_of_two min_of_two

/-- A flow of zero numbers at fl, its empty queue at q. -/
structure FZ (w : World) (fl q : Nat) (k most : Int) : Prop where
  box : w.heap[fl]? = some (.cells #[.int .i64 0, .int .i64 0, .int .i64 0, .bool false, .bool false, .bool false, .int .i64 k, .pointer (some ⟨q, 0, none⟩)] 109 (0, 0))
  que : w.heap[q]? = some (.cells #[.int .i64 most, .slice none 0 0, .int .i64 0] 139 (0, 0))
theorem FZ.ne {w : World} {fl q : Nat} {k most : Int} (h : FZ w fl q k most) : fl ≠ q := by
  intro e
  have h1 := h.box
  rw [e, h.que] at h1
  injection h1 with h1
  injection h1 with h1
  simp at h1
theorem FZ.move {w w' : World} {fl q : Nat} {k most : Int} (h : FZ w fl q k most) (h1 : w'.heap[fl]? = w.heap[fl]?) (h2 : w'.heap[q]? = w.heap[q]?) : FZ w' fl q k most :=
  ⟨h1.trans h.box, h2.trans h.que⟩
/-- What is stored lies there: the world is as it was. -/
theorem same_set {w : World} {g i : Nat} {t : TypeId} {cs : Array Value} {v : Value} (h : w.heap[g]? = some (.cells cs t (0, 0))) (hv : cs[i]? = some v) : w.setCell ⟨g, i, none⟩ v = w := by
  obtain ⟨hi, hv⟩ := Array.getElem?_eq_some_iff.1 hv
  have hcs : cs.setIfInBounds i v = cs := by
    apply Array.ext
    · simp
    · intro j h1 h2
      rw [Array.getElem_setIfInBounds]
      split
      · rename_i e; subst e; exact hv.symm
      · rfl
  have hh : (w.setCell ⟨g, i, none⟩ v).heap = w.heap := by
    apply Array.ext_getElem?
    intro j
    by_cases e : j = g
    · subst e; rw [at_set h i v, hcs, h]
    · exact Below.heap_setCell _ _ _ _ e
  cases w
  simp only [World.setCell] at hh ⊢
  rw [hh]
theorem sent_z (fl q : Nat) (k most : Int) (w : World) (h : FZ w fl q k most) :
    Calls Tryz.prog 46 #[.pointer (some ⟨q, 0, none⟩)] w fun e w' => e = .returned (.int .i64 0) ∧ w' = w := by
  have c2 := at_cell h.que 2
  simp at c2
  go_enter Tryz.func46, Tryz.ntmps46
  go_wp2
  go_ret
  exact ⟨rfl, rfl⟩
theorem left_z (fl q : Nat) (k most : Int) (w : World) (h : FZ w fl q k most) :
    Calls Tryz.prog 47 #[.pointer (some ⟨q, 0, none⟩)] w fun e w' => e = .returned (.int .i64 0) ∧ ∃ n, w' = w.drewN n := by
  have c1 := at_cell h.que 1
  have c2 := at_cell h.que 2
  simp at c1 c2
  go_enter Tryz.func47, Tryz.ntmps47
  go_wp2
  go_quiet (fail)
  go_wp2
  go_ret
  exact ⟨rfl, _, rfl⟩
theorem FZ.cells {w : World} {fl q : Nat} {k most : Int} (h : FZ w fl q k most) :
    w.cell? ⟨q, 0, none⟩ = some (.int .i64 most) ∧ w.cell? ⟨q, 1, none⟩ = some (.slice none 0 0) ∧ w.cell? ⟨q, 2, none⟩ = some (.int .i64 0) := by
  have c0 := at_cell h.que 0
  have c1 := at_cell h.que 1
  have c2 := at_cell h.que 2
  simp at c0 c1 c2
  exact ⟨c0, c1, c2⟩
theorem FZ.fells {w : World} {fl q : Nat} {k most : Int} (h : FZ w fl q k most) :
    w.cell? ⟨fl, 0, none⟩ = some (.int .i64 0) ∧ w.cell? ⟨fl, 1, none⟩ = some (.int .i64 0) ∧ w.cell? ⟨fl, 2, none⟩ = some (.int .i64 0) ∧ w.cell? ⟨fl, 3, none⟩ = some (.bool false) ∧ w.cell? ⟨fl, 4, none⟩ = some (.bool false) ∧ w.cell? ⟨fl, 5, none⟩ = some (.bool false) ∧ w.cell? ⟨fl, 6, none⟩ = some (.int .i64 k) ∧ w.cell? ⟨fl, 7, none⟩ = some (.pointer (some ⟨q, 0, none⟩)) := by
  have c0 := at_cell h.box 0
  have c1 := at_cell h.box 1
  have c2 := at_cell h.box 2
  have c3 := at_cell h.box 3
  have c4 := at_cell h.box 4
  have c5 := at_cell h.box 5
  have c6 := at_cell h.box 6
  have c7 := at_cell h.box 7
  simp at c0 c1 c2 c3 c4 c5 c6 c7
  exact ⟨c0, c1, c2, c3, c4, c5, c6, c7⟩
theorem setPeer_z (fl q : Nat) (k most : Int) (w : World) (h : FZ w fl q k most) :
    Calls Tryz.prog 97 #[.pointer (some ⟨fl, 0, none⟩), .bool false] w fun e w' => e = .returned (.tuple #[]) ∧ FZ w' fl q k most ∧ Only [fl] w w' := by
  have hq := h.ne
  obtain ⟨d0, d1, d2, d3, d4, d5, d6, d7⟩ := h.fells
  have f3 := at_frozen h.box 3
  have hb := at_set h.box 3 (.bool false)
  simp at hb
  have hqq : (w.setCell ⟨fl, 3, none⟩ (.bool false)).heap[q]? = w.heap[q]? := Below.heap_setCell _ _ _ _ (fun e => hq e.symm)
  have H := Lib.hid h
  have HB := Lib.hid hb
  have HQ := Lib.hid hqq
  clear h hb hqq
  go_enter Tryz.func97, Tryz.ntmps97
  go_wp2
  go_end0
  exact ⟨rfl, ⟨HB.out, HQ.out.trans H.out.que⟩, (Only.refl [fl] w).setCell (by simp) _⟩
theorem setOwn_z (fl q : Nat) (k most : Int) (w : World) (h : FZ w fl q k most) :
    Calls Tryz.prog 69 #[.pointer (some ⟨fl, 0, none⟩), .bool false] w fun e w' => e = .returned (.bool false) ∧ ∃ n, w' = w.drewN n := by
  obtain ⟨d0, d1, d2, d3, d4, d5, d6, d7⟩ := h.fells
  go_enter Tryz.func69, Tryz.ntmps69
  go_wp2
  go_ret
  exact ⟨rfl, 0, rfl⟩
theorem takeNone_z (fl q : Nat) (k most : Int) (w : World) (h : FZ w fl q k most) :
    Calls Tryz.prog 92 #[.pointer (some ⟨fl, 0, none⟩)] w fun e w' => e = .returned (.tuple #[.int .i64 0, .string ⟨#[]⟩, .bool false]) ∧ ∃ n, w' = w.drewN n := by
  obtain ⟨d0, d1, d2, d3, d4, d5, d6, d7⟩ := h.fells
  go_enter Tryz.func92, Tryz.ntmps92
  go_wp2
  go_quiet ((go_at_call 47; exact Calls.quiet_of (left_z fl q k most _ (h.move rfl rfl))))
  go_wp2
  refine bodyPost_ret (results_tmp3 rfl _ _ _) rfl ?_
  exact ⟨rfl, _, rfl⟩
end Go.Proofs.YtlfcfmdblmedcaaGreatDoor.Mine
