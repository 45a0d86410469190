/- The next frame to a side comes, or is lost (come), for either side (written by wip/pre.py). -/
import Derived.Test.YtlfcfmdblmedcaaGreatDoorMPrD
import Derived.Deep.RegionWith
namespace Go.Proofs.YtlfcfmdblmedcaaGreatDoor.Mine
open Go.RowKit Go.Maps Go.Proofs.YtlfcfmdblmedcaaGreatDoorW.PrintWords

theorem PairI.drew {Z : Nat} {W0 w : World} {X : List (Nat × Array Value)} {p : Nat} {k : Bool} {A B : Ad} {a b : SG} {c : Nat} {er nx : Int} (h : PairI Z W0 X p k A B a b c er nx w) : PairI Z W0 X p k A B a b c er nx w.drew := h.keep ⟨rfl, rfl, rfl, Nat.le_refl _, fun _ _ => rfl⟩ h.hZ
theorem PairI.drewN {Z : Nat} {W0 w : World} {X : List (Nat × Array Value)} {p : Nat} {k : Bool} {A B : Ad} {a b : SG} {c : Nat} {er nx : Int} (h : PairI Z W0 X p k A B a b c er nx w) (n : Nat) : PairI Z W0 X p k A B a b c er nx (w.drewN n) := h.keep ⟨rfl, rfl, rfl, Nat.le_refl _, fun _ _ => rfl⟩ h.hZ
def stepA (a : SG) (r : List FrV) (E' : EN) (outs : List XE) : SG := outs.foldl effA { a with E := E', F := r }
theorem Tail.head {w : World} {B : Nat} {e : TypeId} {size n : Nat} {v : Value} {xs : List Value} (h : Tail w B e size v (n + 1) xs) : ∃ g off cp, v = .slice (some ⟨g, off, none⟩) (n + 1) cp ∧ n + 1 ≤ cp := by
  rcases h.2 with ⟨-, h0⟩ | ⟨g, off, cap, cur, h1, -, -, h2, -⟩
  · cases h0
  · exact ⟨g, off, cap, h1, h2⟩
set_option maxHeartbeats 4000000 in
set_option maxRecDepth 100000 in
theorem comeNone_0 {W0 : World} {X : List (Nat × Array Value)} {p : Nat} {a b : SG} {c : Nat} {nx : Int} (lost : Bool) (w : World) (h : PairAt W0.heap.size W0 X p false a b c nx w) (hF : a.F = []) :
    Calls Tryz.prog 7 #[.pointer (some ⟨p, 0, none⟩), .int .i64 0, .bool lost] w fun en w' => en = .returned (.bool false) ∧ w' = w := by
  obtain ⟨⟨Ae, Arb, Afl, Aq, Atov, Atkv, Atdv⟩, B, er, hPI⟩ := h
  have htr := hPI.sa.tr
  rw [hF] at htr
  obtain ⟨tA, tc, hto, _⟩ := htr.slice
  dsimp only [List.length_nil] at hto htr
  subst hto
  have hp := hPI.box
  have pto := at_cell hp 2
  simp only [pairCells, List.getElem?_toArray, List.getElem?_cons_zero, List.getElem?_cons_succ] at pto
  clear hPI htr hp hF
  go_enter Tryz.func7, Tryz.ntmps7
  go_wp2
  go_ret
  exact ⟨rfl, rfl⟩
set_option maxHeartbeats 4000000 in
set_option maxRecDepth 100000 in
theorem comeLost_0 {W0 : World} {X : List (Nat × Array Value)} {p : Nat} {a b : SG} {c : Nat} {nx : Int} {f : FrV} {r : List FrV} (w : World) (h : PairAt W0.heap.size W0 X p false a b c nx w) (hF : a.F = f :: r) (hc : c ≤ 1000000000) :
    Calls Tryz.prog 7 #[.pointer (some ⟨p, 0, none⟩), .int .i64 0, .bool true] w fun en w' => en = .returned (.bool true) ∧ PairAt W0.heap.size W0 X p false { a with F := r } b c nx w' := by
  obtain ⟨⟨Ae, Arb, Afl, Aq, Atov, Atkv, Atdv⟩, B, er, hPI⟩ := h
  have htr := hPI.sa.tr
  rw [hF] at htr
  obtain ⟨g, off, cp, hto, hcp⟩ := htr.head
  dsimp only at hto htr
  subst hto
  obtain ⟨xc, xf, xp, xn, xr, xi⟩ := f
  have ev : ∀ i u, (FrV.vals ⟨xc, xf, xp, xn, xr, xi⟩)[i]? = some u → i < 8 → w.cell? ⟨g, off + i, none⟩ = some u := fun i u hu hi => by
    have := rowOf_get FrV.vals FrV.len (⟨xc, xf, xp, xn, xr, xi⟩ :: r) 0 i _ rfl hi
    rw [Nat.zero_mul, Nat.zero_add] at this
    exact htr.at i u (this.trans hu)
  have e0 := ev 0 _ rfl (by decide)
  have e1 := ev 1 _ rfl (by decide)
  have e2 := ev 2 _ rfl (by decide)
  have e3 := ev 3 _ rfl (by decide)
  have e4 := ev 4 _ rfl (by decide)
  have e5 := ev 5 _ rfl (by decide)
  have e6 := ev 6 _ rfl (by decide)
  have e7 := ev 7 _ rfl (by decide)
  rw [Nat.add_zero] at e0
  have hp := hPI.box
  have hZ := hPI.hZ
  have plt := lt_of_at hp
  have glt := (htr.lt g rfl).2
  have hgp : g ≠ p := fun e => by subst e; exact htr.ne hp (by decide) rfl
  have hpg := hgp.symm
  have pto := at_cell hp 2
  have fto := at_frozen hp 2
  have pen := at_cell hp 0
  simp only [pairCells, List.getElem?_toArray, List.getElem?_cons_zero, List.getElem?_cons_succ] at pto pen
  rw [rowOf_cons] at htr
  obtain ⟨v2, hv2⟩ : ∃ v2, v2 = Value.slice (if cp = 1 then some ⟨g, off, none⟩ else some ⟨g, off + 8, none⟩) r.length (cp - 1) := ⟨_, rfl⟩
  have ht2 := htr.cut rfl v2 hv2
  have hat : v2.ownBlock = (Value.slice (some ⟨g, off, none⟩) (r.length + 1) cp).ownBlock := by
    rw [hv2]
    split <;> rfl
  have hP2 := hPI.cutA hF ht2 hat
  dsimp only at hP2
  have hZ2 : W0.heap.size ≤ (w.setCell ⟨p, 2, none⟩ v2).heap.size := by simpa [World.setCell] using hZ
  have b3 := (Below.refl _ (w.setCell ⟨p, 2, none⟩ v2)).alloc (Nat.le_refl _) (.cells #[.int .i64 0, .int .i64 70, .bool xc, .int .i64 xf, .bool xp, .int .i64 xn, .int .i64 xr, .string xi] 66)
  have hP3 := hP2.keep b3 hZ2
  have HP3 := Lib.hid hP3
  have hfl : (r.length : Int) ≤ 2000000000 := by
    have := hPI.sa.few.1
    rw [hF] at this
    simp at this
    omega
  clear hPI hP2 hP3 b3 htr ht2 hat hp ev hF
  subst hv2
  go_enter Tryz.func7, Tryz.ntmps7
  go_wp2_with fail
  go_region
  generalize Value.slice (if cp = 1 then some (⟨g, off, none⟩ : Addr) else some ⟨g, off + 8, none⟩) r.length (cp - 1) = v2 at *
  have HP4 := Lib.hid (HP3.out.drew)
  go_wp2
  go_ret
  exact ⟨rfl, _, _, _, HP4.out⟩
set_option maxHeartbeats 4000000 in
set_option maxRecDepth 100000 in
theorem come_0 {W0 : World} {X : List (Nat × Array Value)} {p : Nat} {a b : SG} {c : Nat} {nx : Int} {f : FrV} {r : List FrV} {E' : EN} {outs : List XE} (w : World) (h : PairAt W0.heap.size W0 X p false a b c nx w) (HT : Tabs W0) (hF : a.F = f :: r) (hok : FrameOk a.E f E' outs) (hlv : ∀ x, E'.φ.lv.ownBlock = some x → a.E.φ.lv.ownBlock = some x) (hgd : ∀ x, x ∈ outs → Good x) (hl : outs.length ≤ 10) (hc : c ≤ 900000000) :
    Calls Tryz.prog 7 #[.pointer (some ⟨p, 0, none⟩), .int .i64 0, .bool false] w fun en w' => en = .returned (.bool true) ∧ PairAt W0.heap.size W0 X p false (stepA a r E' outs) (outs.foldl effB b) (c + 30) nx w' := by
  obtain ⟨⟨Ae, Arb, Afl, Aq, Atov, Atkv, Atdv⟩, B, er, hPI⟩ := h
  have htr := hPI.sa.tr
  rw [hF] at htr
  obtain ⟨g, off, cp, hto, hcp⟩ := htr.head
  dsimp only at hto htr
  subst hto
  obtain ⟨xc, xf, xp, xn, xr, xi⟩ := f
  have ev : ∀ i u, (FrV.vals ⟨xc, xf, xp, xn, xr, xi⟩)[i]? = some u → i < 8 → w.cell? ⟨g, off + i, none⟩ = some u := fun i u hu hi => by
    have := rowOf_get FrV.vals FrV.len (⟨xc, xf, xp, xn, xr, xi⟩ :: r) 0 i _ rfl hi
    rw [Nat.zero_mul, Nat.zero_add] at this
    exact htr.at i u (this.trans hu)
  have e0 := ev 0 _ rfl (by decide)
  have e1 := ev 1 _ rfl (by decide)
  have e2 := ev 2 _ rfl (by decide)
  have e3 := ev 3 _ rfl (by decide)
  have e4 := ev 4 _ rfl (by decide)
  have e5 := ev 5 _ rfl (by decide)
  have e6 := ev 6 _ rfl (by decide)
  have e7 := ev 7 _ rfl (by decide)
  rw [Nat.add_zero] at e0
  have hp := hPI.box
  have hZ := hPI.hZ
  have plt := lt_of_at hp
  have glt := (htr.lt g rfl).2
  have hgp : g ≠ p := fun e => by subst e; exact htr.ne hp (by decide) rfl
  have hpg := hgp.symm
  have pto := at_cell hp 2
  have fto := at_frozen hp 2
  have pen := at_cell hp 0
  simp only [pairCells, List.getElem?_toArray, List.getElem?_cons_zero, List.getElem?_cons_succ] at pto pen
  rw [rowOf_cons] at htr
  obtain ⟨v2, hv2⟩ : ∃ v2, v2 = Value.slice (if cp = 1 then some ⟨g, off, none⟩ else some ⟨g, off + 8, none⟩) r.length (cp - 1) := ⟨_, rfl⟩
  have ht2 := htr.cut rfl v2 hv2
  have hat : v2.ownBlock = (Value.slice (some ⟨g, off, none⟩) (r.length + 1) cp).ownBlock := by
    rw [hv2]
    split <;> rfl
  have hP2 := hPI.cutA hF ht2 hat
  dsimp only at hP2
  have hZ2 : W0.heap.size ≤ (w.setCell ⟨p, 2, none⟩ v2).heap.size := by simpa [World.setCell] using hZ
  have b3 := (Below.refl _ (w.setCell ⟨p, 2, none⟩ v2)).alloc (Nat.le_refl _) (.cells #[.int .i64 0, .int .i64 70, .bool xc, .int .i64 xf, .bool xp, .int .i64 xn, .int .i64 xr, .string xi] 66)
  have hP3 := hP2.keep b3 hZ2
  have HP3 := Lib.hid hP3
  have hfl : (r.length : Int) ≤ 2000000000 := by
    have := hPI.sa.few.1
    rw [hF] at this
    simp at this
    omega
  have HOK := Lib.hid hok
  have HLV := Lib.hid hlv
  have HGD := Lib.hid hgd
  have HTT := Lib.hid (show ∀ w', Below W0.heap.size W0 w' → Tabs w' from fun _ b => HT.below b)
  clear hok hlv hgd HT hPI hP2 hP3 b3 htr ht2 hat hp ev hF
  subst hv2
  go_enter Tryz.func7, Tryz.ntmps7
  go_wp2_with fail
  go_region
  generalize Value.slice (if cp = 1 then some (⟨g, off, none⟩ : Addr) else some ⟨g, off + 8, none⟩) r.length (cp - 1) = v2 at *
  have HP4 := Lib.hid HP3.out.drew
  go_wp2_with fail
  go_region_with (first | (go_at_call 19; refine (HOK.out _ Ae Arb Afl Aq c (HTT.out _ HP4.out.drew.bel) HP4.out.drew.sa.en (by omega)).mono ?_; rintro en w5 ⟨v5, rfl, t5, e5, o5⟩; obtain ⟨A5, cp5, rfl, _⟩ := t5.slice; have HP5 := Lib.hid (HP4.out.drew.call e5 (by omega) o5 (fun x hx => Or.inl (HLV.out x hx))); have T5 := Lib.hid t5; clear t5 e5 o5) | (go_at_call 18; refine (effects_0 outs _ ⟨_, _, _, HP5.out⟩ T5.out HGD.out hl (by omega)).mono ?_; rintro en w6 ⟨rfl, h6⟩; have H6 := Lib.hid h6; clear h6))
  all_goals (
    go_wp2
    go_ret
    exact ⟨rfl, H6.out.more (by omega)⟩)
set_option maxHeartbeats 4000000 in
set_option maxRecDepth 100000 in
theorem comeNone_1 {W0 : World} {X : List (Nat × Array Value)} {p : Nat} {a b : SG} {c : Nat} {nx : Int} (lost : Bool) (w : World) (h : PairAt W0.heap.size W0 X p true a b c nx w) (hF : a.F = []) :
    Calls Tryz.prog 7 #[.pointer (some ⟨p, 0, none⟩), .int .i64 1, .bool lost] w fun en w' => en = .returned (.bool false) ∧ w' = w := by
  obtain ⟨⟨Ae, Arb, Afl, Aq, Atov, Atkv, Atdv⟩, B, er, hPI⟩ := h
  have htr := hPI.sa.tr
  rw [hF] at htr
  obtain ⟨tA, tc, hto, _⟩ := htr.slice
  dsimp only [List.length_nil] at hto htr
  subst hto
  have hp := hPI.box
  have pto := at_cell hp 3
  simp only [pairCells, List.getElem?_toArray, List.getElem?_cons_zero, List.getElem?_cons_succ] at pto
  clear hPI htr hp hF
  go_enter Tryz.func7, Tryz.ntmps7
  go_wp2
  go_ret
  exact ⟨rfl, rfl⟩
set_option maxHeartbeats 4000000 in
set_option maxRecDepth 100000 in
theorem comeLost_1 {W0 : World} {X : List (Nat × Array Value)} {p : Nat} {a b : SG} {c : Nat} {nx : Int} {f : FrV} {r : List FrV} (w : World) (h : PairAt W0.heap.size W0 X p true a b c nx w) (hF : a.F = f :: r) (hc : c ≤ 1000000000) :
    Calls Tryz.prog 7 #[.pointer (some ⟨p, 0, none⟩), .int .i64 1, .bool true] w fun en w' => en = .returned (.bool true) ∧ PairAt W0.heap.size W0 X p true { a with F := r } b c nx w' := by
  obtain ⟨⟨Ae, Arb, Afl, Aq, Atov, Atkv, Atdv⟩, B, er, hPI⟩ := h
  have htr := hPI.sa.tr
  rw [hF] at htr
  obtain ⟨g, off, cp, hto, hcp⟩ := htr.head
  dsimp only at hto htr
  subst hto
  obtain ⟨xc, xf, xp, xn, xr, xi⟩ := f
  have ev : ∀ i u, (FrV.vals ⟨xc, xf, xp, xn, xr, xi⟩)[i]? = some u → i < 8 → w.cell? ⟨g, off + i, none⟩ = some u := fun i u hu hi => by
    have := rowOf_get FrV.vals FrV.len (⟨xc, xf, xp, xn, xr, xi⟩ :: r) 0 i _ rfl hi
    rw [Nat.zero_mul, Nat.zero_add] at this
    exact htr.at i u (this.trans hu)
  have e0 := ev 0 _ rfl (by decide)
  have e1 := ev 1 _ rfl (by decide)
  have e2 := ev 2 _ rfl (by decide)
  have e3 := ev 3 _ rfl (by decide)
  have e4 := ev 4 _ rfl (by decide)
  have e5 := ev 5 _ rfl (by decide)
  have e6 := ev 6 _ rfl (by decide)
  have e7 := ev 7 _ rfl (by decide)
  rw [Nat.add_zero] at e0
  have hp := hPI.box
  have hZ := hPI.hZ
  have plt := lt_of_at hp
  have glt := (htr.lt g rfl).2
  have hgp : g ≠ p := fun e => by subst e; exact htr.ne hp (by decide) rfl
  have hpg := hgp.symm
  have pto := at_cell hp 3
  have fto := at_frozen hp 3
  have pen := at_cell hp 1
  simp only [pairCells, List.getElem?_toArray, List.getElem?_cons_zero, List.getElem?_cons_succ] at pto pen
  rw [rowOf_cons] at htr
  obtain ⟨v2, hv2⟩ : ∃ v2, v2 = Value.slice (if cp = 1 then some ⟨g, off, none⟩ else some ⟨g, off + 8, none⟩) r.length (cp - 1) := ⟨_, rfl⟩
  have ht2 := htr.cut rfl v2 hv2
  have hat : v2.ownBlock = (Value.slice (some ⟨g, off, none⟩) (r.length + 1) cp).ownBlock := by
    rw [hv2]
    split <;> rfl
  have hP2 := hPI.cutA hF ht2 hat
  dsimp only at hP2
  have hZ2 : W0.heap.size ≤ (w.setCell ⟨p, 3, none⟩ v2).heap.size := by simpa [World.setCell] using hZ
  have b3 := (Below.refl _ (w.setCell ⟨p, 3, none⟩ v2)).alloc (Nat.le_refl _) (.cells #[.int .i64 0, .int .i64 70, .bool xc, .int .i64 xf, .bool xp, .int .i64 xn, .int .i64 xr, .string xi] 66)
  have hP3 := hP2.keep b3 hZ2
  have HP3 := Lib.hid hP3
  have hfl : (r.length : Int) ≤ 2000000000 := by
    have := hPI.sa.few.1
    rw [hF] at this
    simp at this
    omega
  clear hPI hP2 hP3 b3 htr ht2 hat hp ev hF
  subst hv2
  go_enter Tryz.func7, Tryz.ntmps7
  go_wp2_with fail
  go_region
  generalize Value.slice (if cp = 1 then some (⟨g, off, none⟩ : Addr) else some ⟨g, off + 8, none⟩) r.length (cp - 1) = v2 at *
  have HP4 := Lib.hid (HP3.out.drew)
  go_wp2
  go_ret
  exact ⟨rfl, _, _, _, HP4.out⟩
set_option maxHeartbeats 4000000 in
set_option maxRecDepth 100000 in
theorem come_1 {W0 : World} {X : List (Nat × Array Value)} {p : Nat} {a b : SG} {c : Nat} {nx : Int} {f : FrV} {r : List FrV} {E' : EN} {outs : List XE} (w : World) (h : PairAt W0.heap.size W0 X p true a b c nx w) (HT : Tabs W0) (hF : a.F = f :: r) (hok : FrameOk a.E f E' outs) (hlv : ∀ x, E'.φ.lv.ownBlock = some x → a.E.φ.lv.ownBlock = some x) (hgd : ∀ x, x ∈ outs → Good x) (hl : outs.length ≤ 10) (hc : c ≤ 900000000) :
    Calls Tryz.prog 7 #[.pointer (some ⟨p, 0, none⟩), .int .i64 1, .bool false] w fun en w' => en = .returned (.bool true) ∧ PairAt W0.heap.size W0 X p true (stepA a r E' outs) (outs.foldl effB b) (c + 30) nx w' := by
  obtain ⟨⟨Ae, Arb, Afl, Aq, Atov, Atkv, Atdv⟩, B, er, hPI⟩ := h
  have htr := hPI.sa.tr
  rw [hF] at htr
  obtain ⟨g, off, cp, hto, hcp⟩ := htr.head
  dsimp only at hto htr
  subst hto
  obtain ⟨xc, xf, xp, xn, xr, xi⟩ := f
  have ev : ∀ i u, (FrV.vals ⟨xc, xf, xp, xn, xr, xi⟩)[i]? = some u → i < 8 → w.cell? ⟨g, off + i, none⟩ = some u := fun i u hu hi => by
    have := rowOf_get FrV.vals FrV.len (⟨xc, xf, xp, xn, xr, xi⟩ :: r) 0 i _ rfl hi
    rw [Nat.zero_mul, Nat.zero_add] at this
    exact htr.at i u (this.trans hu)
  have e0 := ev 0 _ rfl (by decide)
  have e1 := ev 1 _ rfl (by decide)
  have e2 := ev 2 _ rfl (by decide)
  have e3 := ev 3 _ rfl (by decide)
  have e4 := ev 4 _ rfl (by decide)
  have e5 := ev 5 _ rfl (by decide)
  have e6 := ev 6 _ rfl (by decide)
  have e7 := ev 7 _ rfl (by decide)
  rw [Nat.add_zero] at e0
  have hp := hPI.box
  have hZ := hPI.hZ
  have plt := lt_of_at hp
  have glt := (htr.lt g rfl).2
  have hgp : g ≠ p := fun e => by subst e; exact htr.ne hp (by decide) rfl
  have hpg := hgp.symm
  have pto := at_cell hp 3
  have fto := at_frozen hp 3
  have pen := at_cell hp 1
  simp only [pairCells, List.getElem?_toArray, List.getElem?_cons_zero, List.getElem?_cons_succ] at pto pen
  rw [rowOf_cons] at htr
  obtain ⟨v2, hv2⟩ : ∃ v2, v2 = Value.slice (if cp = 1 then some ⟨g, off, none⟩ else some ⟨g, off + 8, none⟩) r.length (cp - 1) := ⟨_, rfl⟩
  have ht2 := htr.cut rfl v2 hv2
  have hat : v2.ownBlock = (Value.slice (some ⟨g, off, none⟩) (r.length + 1) cp).ownBlock := by
    rw [hv2]
    split <;> rfl
  have hP2 := hPI.cutA hF ht2 hat
  dsimp only at hP2
  have hZ2 : W0.heap.size ≤ (w.setCell ⟨p, 3, none⟩ v2).heap.size := by simpa [World.setCell] using hZ
  have b3 := (Below.refl _ (w.setCell ⟨p, 3, none⟩ v2)).alloc (Nat.le_refl _) (.cells #[.int .i64 0, .int .i64 70, .bool xc, .int .i64 xf, .bool xp, .int .i64 xn, .int .i64 xr, .string xi] 66)
  have hP3 := hP2.keep b3 hZ2
  have HP3 := Lib.hid hP3
  have hfl : (r.length : Int) ≤ 2000000000 := by
    have := hPI.sa.few.1
    rw [hF] at this
    simp at this
    omega
  have HOK := Lib.hid hok
  have HLV := Lib.hid hlv
  have HGD := Lib.hid hgd
  have HTT := Lib.hid (show ∀ w', Below W0.heap.size W0 w' → Tabs w' from fun _ b => HT.below b)
  clear hok hlv hgd HT hPI hP2 hP3 b3 htr ht2 hat hp ev hF
  subst hv2
  go_enter Tryz.func7, Tryz.ntmps7
  go_wp2_with fail
  go_region
  generalize Value.slice (if cp = 1 then some (⟨g, off, none⟩ : Addr) else some ⟨g, off + 8, none⟩) r.length (cp - 1) = v2 at *
  have HP4 := Lib.hid HP3.out.drew
  go_wp2_with fail
  go_region_with (first | (go_at_call 19; refine (HOK.out _ Ae Arb Afl Aq c (HTT.out _ HP4.out.drew.bel) HP4.out.drew.sa.en (by omega)).mono ?_; rintro en w5 ⟨v5, rfl, t5, e5, o5⟩; obtain ⟨A5, cp5, rfl, _⟩ := t5.slice; have HP5 := Lib.hid (HP4.out.drew.call e5 (by omega) o5 (fun x hx => Or.inl (HLV.out x hx))); have T5 := Lib.hid t5; clear t5 e5 o5) | (go_at_call 18; refine (effects_1 outs _ ⟨_, _, _, HP5.out⟩ T5.out HGD.out hl (by omega)).mono ?_; rintro en w6 ⟨rfl, h6⟩; have H6 := Lib.hid h6; clear h6))
  all_goals (
    go_wp2
    go_ret
    exact ⟨rfl, H6.out.more (by omega)⟩)
end Go.Proofs.YtlfcfmdblmedcaaGreatDoor.Mine
