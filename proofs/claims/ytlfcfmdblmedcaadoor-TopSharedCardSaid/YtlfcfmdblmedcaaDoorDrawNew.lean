/- The contracts of draw.New and of slices.Clone at []int, for every slice that reads as a list. -/
import Derived.Test.YtlfcfmdblmedcaaDoorDraw
import Derived.Test.YtlfcfmdblmedcaaDoorWWords
import Derived.WalkSpells
namespace Go.Proofs.YtlfcfmdblmedcaaDoor.Mine
open Go.RowKit Go.Proofs.YtlfcfmdblmedcaaDoorW.PrintWords

theorem infoInt : (Tryd.prog.info? 3).map (fun i => (i.zero, i.size, i.bytes)) = some (some (.int .i64 0), 1, 8) := by kernel_rfl

/-- A row of the call's own: nil, or it begins a block. -/
def Lies (base : Nat) (w : World) (A : Option Addr) (c : Nat) (xs : List Int) : Prop :=
  xs.length ≤ c ∧ (xs = [] ∨ ∃ r, A = some ⟨r, 0, none⟩ ∧ base ≤ r ∧ r < w.heap.size ∧ Row w r 0 xs)
theorem Row.of_own {w : World} {base n : Nat} {v : Value} {xs : List Int} (h : w.ownsRow base 3 1 v n (nums .i64 xs)) :
    ∃ A c, v = .slice A xs.length c ∧ Lies base w A c xs := by
  obtain ⟨A, c, rfl, hl, hm, hr⟩ := own_reads h
  have hc := own_le h
  subst hl
  refine ⟨A, c, rfl, hc, ?_⟩
  rcases Nat.eq_zero_or_pos xs.length with h0 | h0
  · exact Or.inl (List.eq_nil_of_length_eq_zero h0)
  · right
    obtain ⟨ad, rfl, hcell⟩ := hr h0
    rcases h.2 with ⟨h', _⟩ | ⟨g, cap, cur, h', hg, hh, hrest⟩
    · cases h'
    · injection h' with h' _ _
      injection h' with h'
      subst h'
      refine ⟨g, rfl, hg, lt_of_at hh, fun j hj => ?_⟩
      have := hcell j hj
      rw [add_plain] at this
      simpa using this

set_option maxHeartbeats 1000000 in
theorem clone_any {A : Option Addr} {n c : Nat} {xs : List Int} (w : World) (hR : ReadsInt w .i64 A n xs) (hn : n * 8 ≤ 140737488355328) :
    Calls Tryd.prog 43 #[.slice A n c] w fun e w' => ∃ A' c', e = .returned (.slice A' n c') ∧ Lies w.heap.size w' A' c' xs ∧ Below w.heap.size w w' := by
  have hl := hR.1
  rcases A with _ | ad
  · have h0 : n = 0 := by
      rcases Nat.eq_zero_or_pos n with h0 | h0
      · exact h0
      · obtain ⟨ad, h, _⟩ := hR.2.2 h0
        cases h
    subst h0
    obtain rfl : xs = [] := List.eq_nil_of_length_eq_zero hl
    clear hl
    have hq := fun W => Lib.run_eql_slice_nil (P := Tryd.prog) W 23 3 none 0 c 0 0 Tryd.underlying23
    go_enter Tryd.func43, Tryd.ntmps43
    go_wp2
    go_ret
    exact ⟨_, _, rfl, ⟨by simp, Or.inl rfl⟩, Below.refl _ _⟩
  · have hq := fun W => Lib.run_eql_slice_nil (P := Tryd.prog) W 23 3 (some ad) n c 0 0 Tryd.underlying23
    have HR := Lib.hid hR
    have HL := Lib.hid hl
    clear hR hl
    have HO : Hid ((w.alloc (.cells #[] 3)).ownsRow w.heap.size 3 1 (.slice (some ⟨w.heap.size, 0, none⟩) 0 0) 0 (nums .i64 [])) := by
      have := own_lit w w.heap.size 3 .i64 [] (Nat.le_refl _) (by decide)
      simpa [nums, Hid] using this
    go_enter Tryd.func43, Tryd.ntmps43
    go_wp2_with (at_builtin; refine print_append_row (w0 := w) w.heap.size rfl _ _ 23 3 .i64 8 rfl Tryd.underlying23 infoInt (by decide) _ [] xs (some ad) n c rfl rfl ?c1 ?c2 ?c3 ?c4 ?c5 ?c6)
    case c1 => exact HO.out
    case c2 => exact HR.out.below ((Below.refl _ _).alloc (Nat.le_refl _) _)
    case c3 => exact (Below.refl _ _).alloc (Nat.le_refl _) _
    case c4 => simp
    case c5 => simpa using hn
    case c6 =>
      intro v1 w1 hown hb _ _
      have hown' := Lib.hid hown
      clear hown
      go_wp2
      go_ret
      have hx := hown'.out
      obtain ⟨A', c', rfl, hlies⟩ := Row.of_own hx
      exact ⟨A', c', by rw [HL.out]; rfl, hlies, hb⟩

set_option maxHeartbeats 1000000 in
theorem drawNew_any {A : Option Addr} {n c : Nat} {xs : List Int} (seed : Int) (w : World) (hR : ReadsInt w .i64 A n xs) (hn : n * 8 ≤ 140737488355328) :
    Calls Tryd.prog 17 #[.int .u64 seed, .slice A n c] w fun e w' => ∃ g r, e = .returned (.pointer (some ⟨g, 0, none⟩)) ∧ w.heap.size ≤ g ∧ w.heap.size ≤ r ∧ r < w'.heap.size ∧ Src w' g r xs seed ∧ Below w.heap.size w w' := by
  have HL := Lib.hid hR.1
  go_enter Tryd.func17, Tryd.ntmps17
  go_wp2_with (go_at_call 43; refine (clone_any _ hR hn).mono ?_; rintro e w1 ⟨A', c', rfl, ho, hb⟩)
  go_ret
  have hl : xs.length = n := HL.out
  subst hl
  have hnew := at_new w1 (.cells #[.slice A' xs.length c', .int .u64 seed] 116)
  obtain ⟨hc, hx⟩ := ho
  rcases hx with rfl | ⟨r, rfl, hr, hr2, hrow⟩
  · exact ⟨w1.heap.size, w1.heap.size, rfl, hb.size, hb.size, by simp, ⟨A', c', hnew, hc, by simp, Or.inl rfl⟩, hb.alloc hb.size _⟩
  · exact ⟨w1.heap.size, r, rfl, hb.size, hr, by simp; omega, ⟨_, c', hnew, hc, by omega, Or.inr ⟨by omega, 0, rfl, hrow.keep (fun hl => Below.heap_alloc _ _ _ hl)⟩⟩, hb.alloc hb.size _⟩
end Go.Proofs.YtlfcfmdblmedcaaDoor.Mine
