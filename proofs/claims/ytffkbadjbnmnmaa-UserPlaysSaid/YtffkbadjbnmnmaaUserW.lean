/- The contracts of layer 16's wakes, and of made. -/
import Derived.Test.YtffkbadjbnmnmaaUserD
namespace Go.Proofs.Ytffkbadjbnmnmaa.Mine
open Go.RowKit Go.Proofs.YtffkbadjbnmnmaaW.PrintWords
attribute [local go_sem] max_int min_int max_of_two min_of_two

theorem reads_list (w : World) (xs : List Int) (hl : xs.length ≤ 1000) : ReadsInt (w.alloc (.cells (nums .i64 xs).toArray 3)) .i64 (some ⟨w.heap.size, 0, none⟩) xs.length xs :=
  own_reads' (own_lit w 0 3 .i64 xs (Nat.zero_le _) (by omega))

/-- A user of the call's own: its block, and its source's. -/
theorem src_sr {w : World} {d r : Nat} {p : Pn} (h : Src w d r p.1 p.2) (hr : r < w.heap.size) : Sr w w.heap.size (some (d, r)) p :=
  ⟨h, by have := h.lt; show w.heap.size ≠ d; omega, by show w.heap.size ≠ r; omega⟩

theorem uset_new {B g d r : Nat} (hg : B ≤ g) (hd : B ≤ d) : ∀ x ∈ uset g (some (d, r)), B ≤ x := by
  intro x hx
  simp [uset, dset] at hx
  rcases hx with rfl | rfl
  · exact hg
  · exact hd

set_option maxHeartbeats 1000000 in
theorem wakes_any (w : World) :
    Calls Try.prog 15 #[] w fun e w' => e = .returned (.bool true) ∧ Below w.heap.size w w' := by
  have hL : ReadsInt (w.alloc (.cells #[.int .i64 7] 3)) .i64 (some ⟨w.heap.size, 0, none⟩) 1 [7] := reads_list w [7] (by decide)
  have HL := Lib.hid hL
  clear hL
  go_enter Try.func15, Try.ntmps15
  go_wp2_with fail
  refine (drawNew_any 0 _ HL.out (by decide)).mono ?_
  rintro e w1 ⟨d, r, rfl, hd, hr, hr2, hs, b1⟩
  simp at hd hr
  have b1' : Below w.heap.size w w1 := ((Below.refl w.heap.size w).alloc (Nat.le_refl _) _).trans (b1.mono (by simp))
  have hs1 := src_sr (p := ([7], 0)) hs hr2
  clear b1 hs
  go_wp2_with fail
  refine (new_any (D := some (d, r)) (p := ([7], 0)) 3 _ hs1).mono ?_
  rintro e w2 ⟨rfl, h2, b2⟩
  have hg := b1'.size
  have hS := uset_new (r := r) hg (show w.heap.size ≤ d by omega)
  have b2' := b1'.trans (b2.mono b1'.size)
  generalize hgg : w1.heap.size = g at h2 hS hg b2
  clear b1' hs1
  go_wp2_with fail
  refine (want_any _ h2).mono ?_
  have e1 : uWant (some (d, r)) uIdle ([7], 0) = ⟨[⟨0, 1, 7, 127, 0⟩, ⟨4, 0, 0, 0, 0⟩], 0, ⟨-1, true, 7, 1⟩, ([], 0)⟩ := by rfl
  rw [e1]
  rintro e w3 ⟨v, rfl, ⟨A, c, rfl, hA⟩, h3, o3⟩
  obtain ⟨b, rfl, hb, hbb⟩ := hA.resolve_left (by simp)
  have hbb' : w3.heap[b]? = some (.cells #[.int .i64 0, .int .i64 1, .int .i64 7, .int .i64 127, .int .i64 0, .int .i64 4, .int .i64 0, .int .i64 0, .int .i64 0, .int .i64 0] 39 (0, 0)) := hbb
  have b3' := b2'.trans (o3.below b2'.size hS)
  have hgl := h2.2.1.all_lt
  have hgt := h2.lt
  clear e1 hA hbb h2 b2 b2'
  go_wp2_with fail
  refine (message_any 2 7 64 _ h3).mono ?_
  have e1 : uMsg (some (d, r)) ⟨-1, true, 7, 1⟩ ([], 0) 2 7 64 = ⟨[⟨5, 0, 0, 0, 0⟩, ⟨1, 0, 0, 0, 64⟩], 0, ⟨64, false, 0, 0⟩, ([], 0)⟩ := by rfl
  rw [e1]
  rintro e w4 ⟨v, rfl, ⟨A2, c2, rfl, hA2⟩, h4, o4⟩
  obtain ⟨q, rfl, hq, hqq⟩ := hA2.resolve_left (by simp)
  have hqq' : w4.heap[q]? = some (.cells #[.int .i64 5, .int .i64 0, .int .i64 0, .int .i64 0, .int .i64 0, .int .i64 1, .int .i64 0, .int .i64 0, .int .i64 0, .int .i64 64] 39 (0, 0)) := hqq
  have hb4 : w4.heap[b]? = _ := o4.at hbb' (fun hm => by
    simp [uset] at hm
    rcases hm with rfl | hm
    · omega
    · have := hgl _ hm; omega)
  have b4' := b3'.trans (o4.below b3'.size hS)
  have x1 := at_cell hb4 1
  have x2 := at_cell hb4 2
  have x3 := at_cell hb4 3
  have y5 := at_cell hqq' 5
  have y6 := at_cell hqq' 6
  have y7 := at_cell hqq' 7
  have y8 := at_cell hqq' 8
  have y9 := at_cell hqq' 9
  simp at x1 x2 x3 y5 y6 y7 y8 y9
  have B4 := Lib.hid b4'
  clear e1 hA2 hqq h3 h4 hb4 hqq' hbb' o3 o4 b3' b4'
  go_wp2
  go_ret
  exact ⟨rfl, B4.out⟩

/-- made's own memory: the act's box, the result, the message. -/
def MadeAt (w W : World) (d0 t0 r0 a0 : Int) (own mine : Bool) (t ri ai : Int) : Prop :=
  W.heap[w.heap.size]? = some (.cells #[.int .i64 d0, .int .i64 t0, .int .i64 r0, .int .i64 a0, .bool own, .bool mine] 49 (0, 0)) ∧
  W.heap[w.heap.size + 1]? = some (.cells #[.int .i64 0, .int .i64 0, .int .i64 0] 36 (0, 0)) ∧
  W.heap[w.heap.size + 1 + 1]? = some (.cells #[.int .i64 t, .int .i64 ri, .int .i64 ai] 36 (0, 0)) ∧ Below w.heap.size w W
theorem MadeAt.below {w W W' : World} {d0 t0 r0 a0 : Int} {own mine : Bool} {t ri ai : Int} (h : MadeAt w W d0 t0 r0 a0 own mine t ri ai) (b : Below W.heap.size W W') : MadeAt w W' d0 t0 r0 a0 own mine t ri ai :=
  ⟨(b.block _ (lt_of_at h.1)).trans h.1, (b.block _ (lt_of_at h.2.1)).trans h.2.1, (b.block _ (lt_of_at h.2.2.1)).trans h.2.2.1, h.2.2.2.trans (b.mono h.2.2.2.size)⟩
theorem MadeAt.ri {w W : World} {d0 t0 r0 a0 : Int} {own mine : Bool} {t ri ai : Int} (h : MadeAt w W d0 t0 r0 a0 own mine t ri ai) (x : Int) : MadeAt w (W.setCell ⟨w.heap.size + 1 + 1, 1, none⟩ (.int .i64 x)) d0 t0 r0 a0 own mine t x ai :=
  ⟨(Below.heap_setCell _ _ _ _ (by show w.heap.size ≠ w.heap.size + 1 + 1; omega)).trans h.1, (Below.heap_setCell _ _ _ _ (by show w.heap.size + 1 ≠ w.heap.size + 1 + 1; omega)).trans h.2.1, by rw [at_set h.2.2.1 1 _]; rfl, h.2.2.2.setCell (by show w.heap.size ≤ w.heap.size + 1 + 1; omega) _⟩
theorem MadeAt.ai {w W : World} {d0 t0 r0 a0 : Int} {own mine : Bool} {t ri ai : Int} (h : MadeAt w W d0 t0 r0 a0 own mine t ri ai) (x : Int) : MadeAt w (W.setCell ⟨w.heap.size + 1 + 1, 2, none⟩ (.int .i64 x)) d0 t0 r0 a0 own mine t ri x :=
  ⟨(Below.heap_setCell _ _ _ _ (by show w.heap.size ≠ w.heap.size + 1 + 1; omega)).trans h.1, (Below.heap_setCell _ _ _ _ (by show w.heap.size + 1 ≠ w.heap.size + 1 + 1; omega)).trans h.2.1, by rw [at_set h.2.2.1 2 _]; rfl, h.2.2.2.setCell (by show w.heap.size ≤ w.heap.size + 1 + 1; omega) _⟩
theorem MadeAt.start (w : World) (d0 t0 r0 a0 : Int) (own mine : Bool) :
    MadeAt w (((w.alloc (.cells #[.int .i64 d0, .int .i64 t0, .int .i64 r0, .int .i64 a0, .bool own, .bool mine] 49)).alloc (.cells #[.int .i64 0, .int .i64 0, .int .i64 0] 36)).alloc (.cells #[.int .i64 t0, .int .i64 r0, .int .i64 a0] 36)) d0 t0 r0 a0 own mine t0 r0 a0 := by
  have h0 := at_alloc (at_alloc (at_new w (.cells #[.int .i64 d0, .int .i64 t0, .int .i64 r0, .int .i64 a0, .bool own, .bool mine] 49)) (.cells #[.int .i64 0, .int .i64 0, .int .i64 0] 36)) (.cells #[.int .i64 t0, .int .i64 r0, .int .i64 a0] 36)
  have h1 := at_alloc (at_new (w.alloc (.cells #[.int .i64 d0, .int .i64 t0, .int .i64 r0, .int .i64 a0, .bool own, .bool mine] 49)) (.cells #[.int .i64 0, .int .i64 0, .int .i64 0] 36)) (.cells #[.int .i64 t0, .int .i64 r0, .int .i64 a0] 36)
  have h2 := at_new ((w.alloc (.cells #[.int .i64 d0, .int .i64 t0, .int .i64 r0, .int .i64 a0, .bool own, .bool mine] 49)).alloc (.cells #[.int .i64 0, .int .i64 0, .int .i64 0] 36)) (.cells #[.int .i64 t0, .int .i64 r0, .int .i64 a0] 36)
  rw [World.size_alloc] at h1
  rw [World.size_alloc, World.size_alloc] at h2
  refine ⟨h0, h1, h2, (((Below.refl _ _).alloc (Nat.le_refl _) _).alloc (by simp) _).alloc (by simp; omega) _⟩

def madeRi (s : US) (own : Bool) (r0 : Int) : Int := if own then s.ri else r0
def madeAi (s : US) (mine : Bool) (a0 : Int) : Int := if mine = true ∧ 0 ≤ s.tei then s.tei else a0

theorem MadeAt.facts {w W : World} {d0 t0 r0 a0 : Int} {own mine : Bool} {t ri ai : Int} (h : MadeAt w W d0 t0 r0 a0 own mine t ri ai) :
    W.cell? ⟨w.heap.size, 5, none⟩ = some (.bool mine) ∧ W.cell? ⟨w.heap.size + 1, 0, none⟩ = some (.int .i64 0) ∧ W.cell? ⟨w.heap.size + 1, 1, none⟩ = some (.int .i64 0) ∧ W.cell? ⟨w.heap.size + 1, 2, none⟩ = some (.int .i64 0) ∧
    W.frozen? ⟨w.heap.size + 1, 0, none⟩ = false ∧ W.frozen? ⟨w.heap.size + 1, 1, none⟩ = false ∧ W.frozen? ⟨w.heap.size + 1, 2, none⟩ = false ∧
    W.cell? ⟨w.heap.size + 1 + 1, 0, none⟩ = some (.int .i64 t) ∧ W.cell? ⟨w.heap.size + 1 + 1, 1, none⟩ = some (.int .i64 ri) ∧ W.cell? ⟨w.heap.size + 1 + 1, 2, none⟩ = some (.int .i64 ai) ∧
    W.frozen? ⟨w.heap.size + 1 + 1, 1, none⟩ = false ∧ W.frozen? ⟨w.heap.size + 1 + 1, 2, none⟩ = false :=
  ⟨at_cell h.1 5, at_cell h.2.1 0, at_cell h.2.1 1, at_cell h.2.1 2, at_frozen h.2.1 0, at_frozen h.2.1 1, at_frozen h.2.1 2, at_cell h.2.2.1 0, at_cell h.2.2.1 1, at_cell h.2.2.1 2, at_frozen h.2.2.1 1, at_frozen h.2.2.1 2⟩

theorem field_tei {s : US} (W : World) : (Instr.field 41 (.agg #[.int .i64 s.tei, .bool s.asking, .int .i64 s.ri, .int .i64 s.tries]) 0).run Try.prog W = .ok (.int .i64 s.tei) W := by kernel_rfl
theorem field_ri {s : US} (W : World) : (Instr.field 41 (.agg #[.int .i64 s.tei, .bool s.asking, .int .i64 s.ri, .int .i64 s.tries]) 2).run Try.prog W = .ok (.int .i64 s.ri) W := by kernel_rfl

set_option maxHeartbeats 1000000 in
set_option maxRecDepth 100000 in
theorem made_any {u : Value} {s : US} (d0 t0 r0 a0 : Int) (own mine : Bool) (w : World)
    (hv : ∀ W, Below w.heap.size w W → Calls Try.prog 14 #[u] W fun e w' => e = .returned (.agg #[.int .i64 s.tei, .bool s.asking, .int .i64 s.ri, .int .i64 s.tries]) ∧ Below W.heap.size W w') :
    Calls Try.prog 18 #[u, .agg #[.int .i64 d0, .int .i64 t0, .int .i64 r0, .int .i64 a0, .bool own, .bool mine]] w fun e w' => e = .returned (.agg #[.int .i64 t0, .int .i64 (madeRi s own r0), .int .i64 (madeAi s mine a0)]) ∧ Below w.heap.size w w' := by
  have HM := Lib.hid (MadeAt.start w d0 t0 r0 a0 own mine)
  have HV := Lib.hid hv
  have hf0 := fun W => field_tei (s := s) W
  have hf2 := fun W => field_ri (s := s) W
  clear hv
  rcases own with _ | _
  · have er : madeRi s false r0 = r0 := rfl
    rw [er]
    clear er
    rcases mine with _ | _
    · have e : madeAi s false a0 = a0 := by simp [madeAi]
      rw [e]
      clear e
      go_enter Try.func18, Try.ntmps18
      go_wp2
      refine bodyPost_ret (results_cell_row rfl _ _ (w.heap.size + 1) 36 #[.int .i64 t0, .int .i64 r0, .int .i64 a0] (0, 0) _ rfl (at_alloc (by have h := at_new (w.alloc (.cells #[.int .i64 d0, .int .i64 t0, .int .i64 r0, .int .i64 a0, .bool false, .bool false] 49)) (.cells #[.int .i64 t0, .int .i64 r0, .int .i64 a0] 36); rwa [World.size_alloc] at h) _) Try.underlying36 rfl (by kernel_rfl)) rfl ?_
      exact ⟨rfl, (((Below.refl _ _).alloc (Nat.le_refl _) _).alloc (by simp) _).alloc (by simp; omega) _⟩
    · by_cases ht : 0 ≤ s.tei
      · have e : madeAi s true a0 = s.tei := by simp [madeAi]; omega
        rw [e]
        clear e
        go_enter Try.func18, Try.ntmps18
        go_wp2_with fail
        refine (HV.out _ HM.out.2.2.2).mono ?_
        rintro e w1 ⟨rfl, b1⟩
        have hm := HM.out.below b1
        obtain ⟨k5, z0, z1, z2, g0, g1, g2, m0, m1, m2, q1, q2⟩ := hm.facts
        have M1 := Lib.hid hm
        clear hm b1
        go_wp2_with fail
        clear k5 z0 z1 z2 g0 g1 g2 m0 m1 m2 q1 q2
        refine (HV.out _ M1.out.2.2.2).mono ?_
        rintro e w2 ⟨rfl, b1⟩
        have hm := M1.out.below b1
        obtain ⟨k5, z0, z1, z2, g0, g1, g2, m0, m1, m2, q1, q2⟩ := hm.facts
        have M2 := Lib.hid hm
        clear hm b1
        have NA := Lib.hid (M2.out.ai s.tei)
        go_wp2
        refine bodyPost_ret (results_cell_row rfl _ _ (w.heap.size + 1) 36 #[.int .i64 t0, .int .i64 r0, .int .i64 s.tei] (0, 0) _ rfl (by rw [at_set (at_set (at_set NA.out.2.1 0 _) 1 _) 2 _]; rfl) Try.underlying36 rfl (by kernel_rfl)) rfl ?_
        exact ⟨rfl, (((NA.out.2.2.2.setCell (by show w.heap.size ≤ w.heap.size + 1; omega) _).setCell (by show w.heap.size ≤ w.heap.size + 1; omega) _).setCell (by show w.heap.size ≤ w.heap.size + 1; omega) _)⟩
      · have e : madeAi s true a0 = a0 := by simp [madeAi]; omega
        rw [e]
        clear e
        go_enter Try.func18, Try.ntmps18
        go_wp2_with fail
        refine (HV.out _ HM.out.2.2.2).mono ?_
        rintro e w1 ⟨rfl, b1⟩
        have hm := HM.out.below b1
        obtain ⟨k5, z0, z1, z2, g0, g1, g2, m0, m1, m2, q1, q2⟩ := hm.facts
        have M1 := Lib.hid hm
        clear hm b1
        go_wp2
        refine bodyPost_ret (results_cell_row rfl _ _ (w.heap.size + 1) 36 #[.int .i64 t0, .int .i64 r0, .int .i64 a0] (0, 0) _ rfl (by rw [at_set (at_set (at_set M1.out.2.1 0 _) 1 _) 2 _]; rfl) Try.underlying36 rfl (by kernel_rfl)) rfl ?_
        exact ⟨rfl, (((M1.out.2.2.2.setCell (by show w.heap.size ≤ w.heap.size + 1; omega) _).setCell (by show w.heap.size ≤ w.heap.size + 1; omega) _).setCell (by show w.heap.size ≤ w.heap.size + 1; omega) _)⟩
  · have er : madeRi s true r0 = s.ri := rfl
    rw [er]
    clear er
    rcases mine with _ | _
    · have e : madeAi s false a0 = a0 := by simp [madeAi]
      rw [e]
      clear e
      go_enter Try.func18, Try.ntmps18
      go_wp2_with fail
      refine (HV.out _ HM.out.2.2.2).mono ?_
      rintro e w1 ⟨rfl, b1⟩
      have hm := HM.out.below b1
      obtain ⟨k5, z0, z1, z2, g0, g1, g2, m0, m1, m2, q1, q2⟩ := hm.facts
      have M1 := Lib.hid hm
      clear hm b1
      have N1 := Lib.hid (M1.out.ri s.ri)
      go_wp2
      refine bodyPost_ret (results_cell_row rfl _ _ (w.heap.size + 1) 36 #[.int .i64 t0, .int .i64 s.ri, .int .i64 a0] (0, 0) _ rfl (by rw [at_set (at_set (at_set N1.out.2.1 0 _) 1 _) 2 _]; rfl) Try.underlying36 rfl (by kernel_rfl)) rfl ?_
      exact ⟨rfl, (((N1.out.2.2.2.setCell (by show w.heap.size ≤ w.heap.size + 1; omega) _).setCell (by show w.heap.size ≤ w.heap.size + 1; omega) _).setCell (by show w.heap.size ≤ w.heap.size + 1; omega) _)⟩
    · by_cases ht : 0 ≤ s.tei
      · have e : madeAi s true a0 = s.tei := by simp [madeAi]; omega
        rw [e]
        clear e
        go_enter Try.func18, Try.ntmps18
        go_wp2_with fail
        refine (HV.out _ HM.out.2.2.2).mono ?_
        rintro e w1 ⟨rfl, b1⟩
        have hm := HM.out.below b1
        obtain ⟨k5, z0, z1, z2, g0, g1, g2, m0, m1, m2, q1, q2⟩ := hm.facts
        have M1 := Lib.hid hm
        clear hm b1
        have N1 := Lib.hid (M1.out.ri s.ri)
        go_wp2_with fail
        clear k5 z0 z1 z2 g0 g1 g2 m0 m1 m2 q1 q2
        refine (HV.out _ N1.out.2.2.2).mono ?_
        rintro e w2 ⟨rfl, b1⟩
        have hm := N1.out.below b1
        obtain ⟨k5, z0, z1, z2, g0, g1, g2, m0, m1, m2, q1, q2⟩ := hm.facts
        have M2 := Lib.hid hm
        clear hm b1
        go_wp2_with fail
        clear k5 z0 z1 z2 g0 g1 g2 m0 m1 m2 q1 q2
        refine (HV.out _ M2.out.2.2.2).mono ?_
        rintro e w3 ⟨rfl, b1⟩
        have hm := M2.out.below b1
        obtain ⟨k5, z0, z1, z2, g0, g1, g2, m0, m1, m2, q1, q2⟩ := hm.facts
        have M3 := Lib.hid hm
        clear hm b1
        have NA := Lib.hid (M3.out.ai s.tei)
        go_wp2
        refine bodyPost_ret (results_cell_row rfl _ _ (w.heap.size + 1) 36 #[.int .i64 t0, .int .i64 s.ri, .int .i64 s.tei] (0, 0) _ rfl (by rw [at_set (at_set (at_set NA.out.2.1 0 _) 1 _) 2 _]; rfl) Try.underlying36 rfl (by kernel_rfl)) rfl ?_
        exact ⟨rfl, (((NA.out.2.2.2.setCell (by show w.heap.size ≤ w.heap.size + 1; omega) _).setCell (by show w.heap.size ≤ w.heap.size + 1; omega) _).setCell (by show w.heap.size ≤ w.heap.size + 1; omega) _)⟩
      · have e : madeAi s true a0 = a0 := by simp [madeAi]; omega
        rw [e]
        clear e
        go_enter Try.func18, Try.ntmps18
        go_wp2_with fail
        refine (HV.out _ HM.out.2.2.2).mono ?_
        rintro e w1 ⟨rfl, b1⟩
        have hm := HM.out.below b1
        obtain ⟨k5, z0, z1, z2, g0, g1, g2, m0, m1, m2, q1, q2⟩ := hm.facts
        have M1 := Lib.hid hm
        clear hm b1
        have N1 := Lib.hid (M1.out.ri s.ri)
        go_wp2_with fail
        clear k5 z0 z1 z2 g0 g1 g2 m0 m1 m2 q1 q2
        refine (HV.out _ N1.out.2.2.2).mono ?_
        rintro e w2 ⟨rfl, b1⟩
        have hm := N1.out.below b1
        obtain ⟨k5, z0, z1, z2, g0, g1, g2, m0, m1, m2, q1, q2⟩ := hm.facts
        have M2 := Lib.hid hm
        clear hm b1
        go_wp2
        refine bodyPost_ret (results_cell_row rfl _ _ (w.heap.size + 1) 36 #[.int .i64 t0, .int .i64 s.ri, .int .i64 a0] (0, 0) _ rfl (by rw [at_set (at_set (at_set M2.out.2.1 0 _) 1 _) 2 _]; rfl) Try.underlying36 rfl (by kernel_rfl)) rfl ?_
        exact ⟨rfl, (((M2.out.2.2.2.setCell (by show w.heap.size ≤ w.heap.size + 1; omega) _).setCell (by show w.heap.size ≤ w.heap.size + 1; omega) _).setCell (by show w.heap.size ≤ w.heap.size + 1; omega) _)⟩
end Go.Proofs.Ytffkbadjbnmnmaa.Mine
