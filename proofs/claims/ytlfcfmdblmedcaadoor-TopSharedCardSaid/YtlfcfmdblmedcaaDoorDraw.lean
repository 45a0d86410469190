/- The contract of package draw's Next: each for every source that lies in memory as told. -/
import Derived.Test.YtlfcfmdblmedcaaDoorProg
import Derived.Test.YtlfcfmdblmedcaaDoorBase
namespace Go.Proofs.YtlfcfmdblmedcaaDoor.Mine
open Go.RowKit

def lcg (s : Int) : Int := (s * 6364136223846793005 + 1442695040888963407) % 18446744073709551616
theorem lcg_range (s : Int) : 0 ≤ lcg s ∧ lcg s ≤ 18446744073709551615 := by unfold lcg; omega

theorem u16_of (x : Int) : wrap64 (IntKind.u16.wrap x) = x % 65536 := by
  have e : IntKind.u16.wrap x = x % 65536 := by simp [IntKind.wrap, IntKind.bits, IntKind.signed]
  rw [e, w64 _ (by omega) (by omega)]

theorem lcg_of (st : Int) : IntKind.u64.wrap (IntKind.u64.wrap (st * 6364136223846793005) + 1442695040888963407) = lcg st := by
  unfold lcg
  simp [IntKind.wrap, IntKind.bits, IntKind.signed]
theorem lcg_top (st : Int) : wrap64 (IntKind.u64.wrap (IntKind.u64.wrap (st * 6364136223846793005) + 1442695040888963407) / 281474976710656) = lcg st / 281474976710656 := by
  have := lcg_range st
  rw [lcg_of, w64 _ (by omega) (by omega)]

/-- A source in block g: the numbers that it tells first are xs (they lie in block r), its state is st. -/
def Src (w : World) (g r : Nat) (xs : List Int) (st : Int) : Prop :=
  ∃ A c, w.heap[g]? = some (.cells #[.slice A xs.length c, .int .u64 st] 116 (0, 0)) ∧ xs.length ≤ c ∧ xs.length ≤ 140737488355328 ∧ (xs = [] ∨ g ≠ r ∧ ∃ off, A = some ⟨r, off, none⟩ ∧ Row w r off xs)

theorem Src.keep {w w' : World} {g r : Nat} {xs : List Int} {st : Int} {S : List Nat} (h : Src w g r xs st) (k : Only S w w') (hg : g ∉ S) (hr : r ∉ S) : Src w' g r xs st := by
  obtain ⟨A, c, h1, h2, h5, h6⟩ := h
  refine ⟨A, c, k.at h1 hg, h2, h5, h6.imp id ?_⟩
  rintro ⟨h3, off, hA, hrow⟩
  exact ⟨h3, off, hA, hrow.keep (fun hl => k.block r hl hr)⟩
theorem Src.lt {w : World} {g r : Nat} {xs : List Int} {st : Int} (h : Src w g r xs st) : g < w.heap.size := by
  obtain ⟨A, c, h1, _⟩ := h
  exact lt_of_at h1


theorem next_cons {g r : Nat} {x : Int} {xs : List Int} {st : Int} (w : World) (h : Src w g r (x :: xs) st) :
    Calls Tryd.prog 42 #[.pointer (some ⟨g, 0, none⟩)] w fun e w' => e = .returned (.int .i64 (x % 65536)) ∧ Src w' g r xs st ∧ Only [g] w w' := by
  obtain ⟨A, c, h1, h2, h5, h6⟩ := h
  obtain ⟨h3, off, rfl, hrow⟩ : g ≠ r ∧ ∃ off, A = some ⟨r, off, none⟩ ∧ Row w r off (x :: xs) := by simpa using h6
  have c0 := at_cell h1 0
  have c1 := at_cell h1 1
  have f0 := at_frozen h1 0
  have f1 := at_frozen h1 1
  have x0 := hrow 0 (by simp)
  simp at c0 c1 x0 h2 h5
  have H1 := Lib.hid h1
  have HR := Lib.hid hrow
  clear h1 hrow h6
  go_enter Tryd.func42, Tryd.ntmps42
  go_wp2
  all_goals
    go_ret
    refine ⟨ret_int (u16_of x), ?_, (Only.refl _ _).setCell (Or.inl (by simp)) _⟩
    have h1 := H1.out
    have h1' := at_set h1 0 (.slice (some ⟨r, off, none⟩) xs.length 0)
    have ht := HR.out.tail
    have hw := fun u => ht.keep (w' := w.setCell ⟨g, 0, none⟩ u) (fun _ => Below.heap_setCell _ _ _ _ (fun e => h3 e.symm))
    first
      | (refine ⟨some ⟨r, off + 1, none⟩, c - 1, ?_, by omega, by omega, Or.inr ⟨h3, off + 1, rfl, hw _⟩⟩
         rw [at_set h1 0 _]; rfl)
      | (obtain rfl : xs = [] := by
           have : c = 1 := by assumption
           exact List.eq_nil_of_length_eq_zero (by omega)
         refine ⟨some ⟨r, off, none⟩, 0, ?_, by simp, by simp, Or.inl rfl⟩
         rw [at_set h1 0 _]; rfl)

theorem next_nil {g r : Nat} {st : Int} (w : World) (h : Src w g r [] st) :
    Calls Tryd.prog 42 #[.pointer (some ⟨g, 0, none⟩)] w fun e w' => e = .returned (.int .i64 (lcg st / 281474976710656)) ∧ Src w' g r [] (lcg st) ∧ Only [g] w w' := by
  obtain ⟨A, c, h1, h2, h5, h6⟩ := h
  have c0 := at_cell h1 0
  have c1 := at_cell h1 1
  have f0 := at_frozen h1 0
  have f1 := at_frozen h1 1
  simp at c0 c1 h2 h5
  have H1 := Lib.hid h1
  clear h1 h6
  go_enter Tryd.func42, Tryd.ntmps42
  go_wp2
  go_ret
  refine ⟨ret_int (lcg_top st), ?_, (Only.refl _ _).setCell (Or.inl (by simp)) _⟩
  have h1 := H1.out
  refine ⟨A, c, ?_, by simp, by simp, Or.inl rfl⟩
  rw [at_set h1 1 _, lcg_of]; rfl

/-- What a source tells next, and what is left of it. -/
def nxt : List Int × Int → Int × List Int × Int
  | ([], st) => (lcg st / 281474976710656, [], lcg st)
  | (x :: xs, st) => (x % 65536, xs, st)
theorem nxt_range (p : List Int × Int) : 0 ≤ (nxt p).1 ∧ (nxt p).1 ≤ 65535 := by
  obtain ⟨xs, st⟩ := p
  cases xs with
  | nil => have := lcg_range st; simp only [nxt]; omega
  | cons x xs => simp only [nxt]; omega

theorem next_any {g r : Nat} {p : List Int × Int} (w : World) (h : Src w g r p.1 p.2) :
    Calls Tryd.prog 42 #[.pointer (some ⟨g, 0, none⟩)] w fun e w' => e = .returned (.int .i64 (nxt p).1) ∧ Src w' g r (nxt p).2.1 (nxt p).2.2 ∧ Only [g] w w' := by
  obtain ⟨xs, st⟩ := p
  cases xs with
  | nil => exact next_nil w h
  | cons x xs => exact next_cons w h

theorem next_none (w : World) : Calls Tryd.prog 42 #[.pointer none] w fun e w' => e = .returned (.int .i64 0) ∧ w = w' := by
  go_enter Tryd.func42, Tryd.ntmps42
  go_wp2
  go_ret
  exact ⟨rfl, rfl⟩
end Go.Proofs.YtlfcfmdblmedcaaDoor.Mine
