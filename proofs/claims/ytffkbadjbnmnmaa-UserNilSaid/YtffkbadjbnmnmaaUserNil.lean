/- UserNil's walk. -/
import Derived.Test.YtffkbadjbnmnmaaUserW
namespace Go.Proofs.Ytffkbadjbnmnmaa.Mine
open Go.RowKit Go.Proofs.YtffkbadjbnmnmaaW.PrintWords
attribute [local go_sem] max_int min_int max_of_two min_of_two

theorem want_none (w : World) : Calls Try.prog 11 #[.pointer none] w fun e w' => e = .returned (.tuple #[.slice none 0 0, .int .i64 1]) ∧ w = w' := by
  go_enter Try.func11, Try.ntmps11
  go_wp2
  go_ret2
  exact ⟨rfl, rfl⟩
theorem verify_none (w : World) : Calls Try.prog 23 #[.pointer none] w fun e w' => e = .returned (.tuple #[.slice none 0 0, .int .i64 1]) ∧ w = w' := by
  go_enter Try.func23, Try.ntmps23
  go_wp2
  go_ret2
  exact ⟨rfl, rfl⟩
theorem drop_none (w : World) : Calls Try.prog 17 #[.pointer none] w fun e w' => e = .returned (.tuple #[.slice none 0 0, .int .i64 1]) ∧ w = w' := by
  go_enter Try.func17, Try.ntmps17
  go_wp2
  go_ret2
  exact ⟨rfl, rfl⟩
theorem timeout_none (w : World) : Calls Try.prog 16 #[.pointer none] w fun e w' => e = .returned (.slice none 0 0) ∧ w = w' := by
  go_enter Try.func16, Try.ntmps16
  go_wp2
  go_ret
  exact ⟨rfl, rfl⟩
theorem view_none (w : World) : Calls Try.prog 14 #[.pointer none] w fun e w' => e = .returned (.agg #[.int .i64 0, .bool false, .int .i64 0, .int .i64 0]) ∧ Below w.heap.size w w' := by
  go_enter Try.func14, Try.ntmps14
  go_wp2
  refine bodyPost_ret (results_cell_row rfl _ _ w.heap.size 41 #[.int .i64 0, .bool false, .int .i64 0, .int .i64 0] (0, 0) _ rfl (at_new _ _) Try.underlying41 rfl (by kernel_rfl)) rfl ?_
  exact ⟨rfl, (Below.refl _ _).alloc (Nat.le_refl _) _⟩
set_option maxHeartbeats 1000000 in
theorem message_none (t ri ai : Int) (w : World) : Calls Try.prog 12 #[.pointer none, .agg #[.int .i64 t, .int .i64 ri, .int .i64 ai]] w fun e w' => e = .returned (.slice none 0 0) ∧ Below w.heap.size w w' := by
  go_enter Try.func12, Try.ntmps12
  go_wp2_with (go_at_call 26; refine (put_msg _ _ _ _).mono ?_; rintro e w1 ⟨x, rfl, bb, -, -, -, -⟩; have BB := Lib.hid bb; clear bb)
  go_ret
  exact ⟨rfl, BB.out⟩

set_option maxHeartbeats 4000000 in
set_option maxRecDepth 100000 in
theorem unil_any (d0 t0 r0 a0 : Int) (own mine : Bool) (w : World) :
    Calls Try.prog 7 #[.agg #[.int .i64 d0, .int .i64 t0, .int .i64 r0, .int .i64 a0, .bool own, .bool mine]] w fun e w' => e = .returned (.bool true) ∧ Below w.heap.size w w' := by
  have hbox := at_new w (.cells #[.int .i64 d0, .int .i64 t0, .int .i64 r0, .int .i64 a0, .bool own, .bool mine] 49)
  have B0 := (Below.refl w.heap.size w).alloc (Nat.le_refl _) (.cells #[.int .i64 d0, .int .i64 t0, .int .i64 r0, .int .i64 a0, .bool own, .bool mine] 49)
  generalize hw0 : w.alloc (.cells #[.int .i64 d0, .int .i64 t0, .int .i64 r0, .int .i64 a0, .bool own, .bool mine] 49) = w0 at hbox B0
  have HB := Lib.hid hbox
  have H0 := Lib.hid B0
  clear hbox B0
  go_enter Try.func7, Try.ntmps7
  go_wp2_with fail
  clear hw0
  refine (want_none _).mono ?_
  rintro e w' ⟨rfl, rfl⟩
  go_wp2_with fail
  refine (verify_none _).mono ?_
  rintro e w' ⟨rfl, rfl⟩
  go_wp2_with fail
  refine (drop_none _).mono ?_
  rintro e w' ⟨rfl, rfl⟩
  go_wp2_with fail
  refine (new_any (D := none) (p := ([], 0)) 1 _ trivial).mono ?_
  rintro e w1 ⟨rfl, h1, b1⟩
  have hb1 := (b1.block _ (lt_of_at HB.out)).trans HB.out
  have B1 := H0.out.trans (b1.mono H0.out.size)
  have hg := H0.out.size
  have hlt := lt_of_at HB.out
  generalize w0.heap.size = g at h1 hg hlt
  clear b1
  go_wp2_with fail
  refine (want_any _ h1).mono ?_
  have e1 : uWant none uIdle ([], 0) = ⟨[⟨0, 1, 0, 127, 0⟩, ⟨4, 0, 0, 0, 0⟩], 0, ⟨-1, true, 0, 1⟩, ([], 0)⟩ := by rfl
  rw [e1]
  rintro e w2 ⟨v, rfl, ⟨A, c, rfl, hA⟩, h2, o2⟩
  obtain ⟨b, rfl, hb, hbb⟩ := hA.resolve_left (by simp)
  have hbb' : w2.heap[b]? = some (.cells #[.int .i64 0, .int .i64 1, .int .i64 0, .int .i64 127, .int .i64 0, .int .i64 4, .int .i64 0, .int .i64 0, .int .i64 0, .int .i64 0] 39 (0, 0)) := hbb
  have B2 := B1.trans (o2.below B1.size (fun x hx => by simp [uset, dset] at hx; omega))
  have hb2 : w2.heap[w.heap.size]? = _ := o2.at hb1 (fun hm => by simp [uset, dset] at hm; omega)
  clear e1 hA hbb hb1 B1 h1 h2 o2
  go_wp2_with fail
  refine (wakes_any _).mono ?_
  rintro e w3 ⟨rfl, b3⟩
  have hb3 : w3.heap[w.heap.size]? = _ := (b3.block _ (lt_of_at hb2)).trans hb2
  have hb3' : w3.heap[b]? = _ := (b3.block _ (lt_of_at hbb')).trans hbb'
  have B3 := B2.trans (b3.mono B2.size)
  have k0 := at_cell hb3 0
  have k1 := at_cell hb3 1
  have k2 := at_cell hb3 2
  have k3 := at_cell hb3 3
  have k4 := at_cell hb3 4
  have k5 := at_cell hb3 5
  simp at k0 k1 k2 k3 k4 k5
  have HE := Lib.hid hb3'
  have HB3 := Lib.hid B3
  clear hb3 hb3' B3 b3 B2 hb2 hbb'
  go_wp2_with fail
  refine (made_any (s := ⟨0, false, 0, 0⟩) d0 t0 r0 a0 own mine _ (fun W _ => view_none W)).mono ?_
  rintro e w4 ⟨rfl, b4⟩
  have hb4 : w4.heap[b]? = _ := (b4.block _ (lt_of_at HE.out)).trans HE.out
  have B4 := HB3.out.trans (b4.mono HB3.out.size)
  clear b4
  go_wp2_with fail
  refine (message_none _ _ _ _).mono ?_
  rintro e w5 ⟨rfl, b5⟩
  have hb5 : w5.heap[b]? = _ := (b5.block _ (lt_of_at hb4)).trans hb4
  have B5 := B4.trans (b5.mono B4.size)
  clear b5 hb4 B4
  go_wp2_with fail
  refine (timeout_none _).mono ?_
  rintro e w' ⟨rfl, rfl⟩
  go_wp2_with fail
  refine (view_none _).mono ?_
  rintro e w6 ⟨rfl, b6⟩
  have hb6 : w6.heap[b]? = _ := (b6.block _ (lt_of_at hb5)).trans hb5
  have B6 := B5.trans (b6.mono B5.size)
  have k2 := at_cell hb6 2
  simp at k2
  have HB6 := Lib.hid B6
  clear b6 hb5 B5 hb6 B6
  go_wp2
  go_ret
  exact ⟨rfl, HB6.out⟩
end Go.Proofs.Ytffkbadjbnmnmaa.Mine
