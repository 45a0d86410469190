/- Both ends are made (begin). -/
import Derived.Test.YtlfcfmdblmedcaaGreatDoorMPrK
import Derived.Test.YtlfcfmdblmedcaaGreatDoorMEnI
import Derived.Test.YtlfcfmdblmedcaaGreatDoorTReads
namespace Go.Proofs.YtlfcfmdblmedcaaGreatDoor.Mine
open Go.RowKit Go.Maps Go.Proofs.YtlfcfmdblmedcaaGreatDoorW.PrintWords
set_option linter.unusedSimpArgs false

theorem EnNew.move {w w' : World} {e rb fl q : Nat} {N : Int} (h : EnNew w e rb fl q N) (h1 : w'.heap[e]? = w.heap[e]?) (h2 : w'.heap[rb]? = w.heap[rb]?) (h3 : w'.heap[fl]? = w.heap[fl]?) (h4 : w'.heap[q]? = w.heap[q]?) : EnNew w' e rb fl q N := by
  obtain ⟨n, hn, hr⟩ := EnI.runs h
  have hb := h1.trans (EnI.box h)
  have hr' := hr.move h2
  have hf := (EnI.flow h).move h3 h4 (fun b hb => by simp [FS.zero, Value.ownBlock] at hb)
  exact ⟨hb, ⟨n, hn, hr'⟩, hf, Tail.nil _ _ _ _, Only.refl _ _, ⟨lt_of_at hb, hr'.lt, hf.lt.1, hf.lt.2⟩, fun _ hx => by cases hx⟩
def sgA (N : Int) : SG := ⟨enA N, [], 0, 0⟩
def pairZero (v0 v1 : Value) : Array Value := #[v0, v1, .slice none 0 0, .slice none 0 0, .slice none 0 0, .slice none 0 0, .slice none 0 0, .slice none 0 0, .slice none 0 0, .slice none 0 0, .slice none 0 0, .slice none 0 0, .int .i64 0, .int .i64 0, .int .i64 0, .int .i64 0, .int .i64 0, .int .i64 0]
/-- So many ends were made. -/
structure Beg0 (w : World) (p : Nat) (wr : World) : Prop where
  box : wr.heap[p]? = some (.cells (pairZero (.pointer none) (.pointer none)) 47 (0, 0))
  bel : Below w.heap.size w wr
  hp : w.heap.size ≤ p
structure Beg1 (w : World) (N : Int) (p : Nat) (wr : World) (e rb fl q : Nat) : Prop where
  box : wr.heap[p]? = some (.cells (pairZero (.pointer (some ⟨e, 0, none⟩)) (.pointer none)) 47 (0, 0))
  bel : Below w.heap.size w wr
  hp : w.heap.size ≤ p
  en : EnG wr e rb fl q (enA N) 0
  ge : w.heap.size ≤ e ∧ w.heap.size ≤ rb ∧ w.heap.size ≤ fl ∧ w.heap.size ≤ q
set_option maxHeartbeats 8000000 in
set_option maxRecDepth 100000 in
theorem begin_any (N : Int) (hN : N = 3 ∨ N = 30) (w : World) (HT : Tabs w) :
    Calls Tryz.prog 4 #[.int .i64 7, .int .i64 N] w fun en w' => ∃ p, en = .returned (.tuple #[.pointer (some ⟨p, 0, none⟩), .bool true]) ∧ PairAt w.heap.size w [] p false (sgA N) (sgA N) 0 0 w' := by
  have HTT := Lib.hid (show ∀ w', Below w.heap.size w w' → Tabs w' from fun _ b => HT.below b)
  have HN := Lib.hid hN
  clear HT hN
  have h0 : Beg0 w w.heap.size (w.alloc (.cells (pairZero (.pointer none) (.pointer none)) 47)) :=
    ⟨at_new w _, (Below.refl _ _).alloc (Nat.le_refl _) _, Nat.le_refl _⟩
  have H0 := Lib.hid h0
  clear h0
  go_enter Tryz.func4, Tryz.ntmps4
  go_wp2_with fail
  go_loopw [12] (fun i wr => (i = .int .i64 0 ∧ Beg0 w w.heap.size wr) ∨ (i = .int .i64 1 ∧ ∃ e rb fl q, Beg1 w N w.heap.size wr e rb fl q) ∨ (i = .int .i64 2 ∧ PairAt w.heap.size w [] w.heap.size false (sgA N) (sgA N) 0 0 wr)) (fun i _ => 2 - (intOf i).toNat)
  case atStart => exact Or.inl ⟨rfl, H0.out⟩
  case round =>
    clear H0
    rcases hrel with ⟨rfl, hB⟩ | ⟨rfl, e0, rb0, fl0, q0, hB⟩ | ⟨rfl, hP⟩
    · have plt := lt_of_at hB.box
      have d0 := at_cell hB.box 0
      simp only [pairZero, List.getElem?_toArray, List.getElem?_cons_zero, List.getElem?_cons_succ] at d0
      have HB := Lib.hid hB
      clear hB
      go_wp2_with fail
      go_region_with ((go_at_call 14; refine (new_any N HN.out _).mono ?_; rintro en w1 ⟨e, rb, fl, q, rfl, hn, b1, g1, g2, g3, g4⟩; have hb1 := (b1.block w.heap.size plt).trans HB.out.box; have d1 := at_cell hb1 0; have fd1 := at_frozen hb1 0; have plt1 := lt_of_at hb1; simp only [pairZero, List.getElem?_toArray, List.getElem?_cons_zero, List.getElem?_cons_succ] at d1; have HN1 := Lib.hid hn; have B1 := Lib.hid b1; have HB1 := Lib.hid hb1; have G := Lib.hid (And.intro g1 (And.intro g2 (And.intro g3 g4))); clear hn b1 hb1 g1 g2 g3 g4))
      all_goals (
        have far : ∀ x, x ≠ w.heap.size → (w1.setCell ⟨w.heap.size, 0, none⟩ (.pointer (some ⟨e, 0, none⟩))).heap[x]? = w1.heap[x]? := fun x hx => Below.heap_setCell _ _ _ _ hx
        have gg : wr.heap.size ≤ e ∧ wr.heap.size ≤ rb ∧ wr.heap.size ≤ fl ∧ wr.heap.size ≤ q := G.out
        have hn2 := HN1.out.move (far e (by omega)) (far rb (by omega)) (far fl (by omega)) (far q (by omega))
        have hb2 := at_put HB1.out 0 (.pointer (some ⟨e, 0, none⟩)) (ds := pairZero (.pointer (some ⟨e, 0, none⟩)) (.pointer none)) rfl
        have HB2 := Lib.hid hb2
        have HN2 := Lib.hid hn2
        have FAR := Lib.hid far
        clear hn2 hb2 far d0
        go_wp2_with fail
        refine (assign_any N _ HN2.out).mono ?_
        rintro en w2 ⟨rfl, hE, o2⟩
        have bel1 : Below w.heap.size w w1 := HB.out.bel.drew.trans (B1.out.mono (by have := HB.out.bel.size; simpa using this))
        have bel2 : Below w.heap.size w w2 := (bel1.setCell (p := ⟨w.heap.size, 0, none⟩) HB.out.hp (.pointer (some ⟨e, 0, none⟩))).trans (o2.below (by have := bel1.size; simpa [World.setCell] using this) (fun x hx => by have := HB.out.bel.size; simp at hx; omega))
        have hb3 : w2.heap[w.heap.size]? = _ := o2.at HB2.out (by simp; omega)
        have HE := Lib.hid hE
        have O2 := Lib.hid o2
        have BEL2 := Lib.hid bel2
        have HB3 := Lib.hid hb3
        clear hE o2 bel1 bel2 hb3 d1 fd1
        go_wp2
        go_roundw
        case rel => exact Or.inr (Or.inl ⟨rfl, e, rb, fl, q, HB3.out, BEL2.out, HB.out.hp, HE.out, by have := HB.out.bel.size; omega⟩)
        case measure => simp [intOf])
    · have plt := lt_of_at hB.box
      have d0 := at_cell hB.box 1
      simp only [pairZero, List.getElem?_toArray, List.getElem?_cons_zero, List.getElem?_cons_succ] at d0
      have HB := Lib.hid hB
      clear hB
      go_wp2_with fail
      go_region_with ((go_at_call 14; refine (new_any N HN.out _).mono ?_; rintro en w1 ⟨e, rb, fl, q, rfl, hn, b1, g1, g2, g3, g4⟩; have hb1 := (b1.block w.heap.size plt).trans HB.out.box; have d1 := at_cell hb1 1; have fd1 := at_frozen hb1 1; have plt1 := lt_of_at hb1; simp only [pairZero, List.getElem?_toArray, List.getElem?_cons_zero, List.getElem?_cons_succ] at d1; have HN1 := Lib.hid hn; have B1 := Lib.hid b1; have HB1 := Lib.hid hb1; have G := Lib.hid (And.intro g1 (And.intro g2 (And.intro g3 g4))); clear hn b1 hb1 g1 g2 g3 g4))
      all_goals (
        have far : ∀ x, x ≠ w.heap.size → (w1.setCell ⟨w.heap.size, 1, none⟩ (.pointer (some ⟨e, 0, none⟩))).heap[x]? = w1.heap[x]? := fun x hx => Below.heap_setCell _ _ _ _ hx
        have gg : wr.heap.size ≤ e ∧ wr.heap.size ≤ rb ∧ wr.heap.size ≤ fl ∧ wr.heap.size ≤ q := G.out
        have hn2 := HN1.out.move (far e (by omega)) (far rb (by omega)) (far fl (by omega)) (far q (by omega))
        have hb2 := at_put HB1.out 1 (.pointer (some ⟨e, 0, none⟩)) (ds := pairZero (.pointer (some ⟨e0, 0, none⟩)) (.pointer (some ⟨e, 0, none⟩))) rfl
        have HB2 := Lib.hid hb2
        have HN2 := Lib.hid hn2
        have FAR := Lib.hid far
        clear hn2 hb2 far d0
        go_wp2_with fail
        refine (assign_any N _ HN2.out).mono ?_
        rintro en w2 ⟨rfl, hE, o2⟩
        have bel1 : Below w.heap.size w w1 := HB.out.bel.drew.trans (B1.out.mono (by have := HB.out.bel.size; simpa using this))
        have bel2 : Below w.heap.size w w2 := (bel1.setCell (p := ⟨w.heap.size, 1, none⟩) HB.out.hp (.pointer (some ⟨e, 0, none⟩))).trans (o2.below (by have := bel1.size; simpa [World.setCell] using this) (fun x hx => by have := HB.out.bel.size; simp at hx; omega))
        have hb3 : w2.heap[w.heap.size]? = _ := o2.at HB2.out (by simp; omega)
        have HE := Lib.hid hE
        have O2 := Lib.hid o2
        have BEL2 := Lib.hid bel2
        have HB3 := Lib.hid hb3
        clear hE o2 bel1 bel2 hb3 d1 fd1
        go_wp2
        go_roundw
        case rel => 
          have hs := HB.out.bel.size
          have hE0 := HB.out.en
          have l0 := EnI.lt hE0
          have sz1 : wr.heap.size ≤ w1.heap.size := B1.out.size
          have k0 : ∀ x, x < wr.heap.size → x ≠ w.heap.size → w2.heap[x]? = wr.heap[x]? := fun x hx hxp => (O2.out.block x (by simp [World.setCell]; omega) (by simp; omega)).trans ((FAR.out x hxp).trans (B1.out.block x hx))
          have hE1 : EnG w2 e0 rb0 fl0 q0 (enA N) 0 := by
            obtain ⟨n, hn, hr⟩ := EnI.runs hE0
            obtain ⟨es, clock, hm⟩ := hr.obj
            refine hE0.move (k0 _ l0.1 ?_) (k0 _ l0.2.1 ?_) (k0 _ l0.2.2.1 ?_) (k0 _ l0.2.2.2 ?_) (fun b hb => by simp [enA, FS.zero, Value.ownBlock] at hb)
            · exact blk_ne (EnI.box hE0) HB.out.box (by decide)
            · rintro rfl
              have := HB.out.box
              rw [hm] at this
              injection this with this
              cases this
            · exact blk_ne (EnI.flow hE0).box HB.out.box (by decide)
            · exact blk_ne (EnI.flow hE0).que HB.out.box (by decide)
          refine Or.inr (Or.inr ⟨rfl, ⟨e0, rb0, fl0, q0, .slice none 0 0, .slice none 0 0, .slice none 0 0⟩, ⟨e, rb, fl, q, .slice none 0 0, .slice none 0 0, .slice none 0 0⟩, 0, HB3.out, ?_, ?_, ?_, HB.out.hp, BEL2.out, fun _ hx => by cases hx⟩)
          · exact ⟨hE1, Tail.nil _ _ _ _, ⟨0, [], Nat.le_refl _, Tail.nil _ _ _ _⟩, ⟨[], Tail.nil _ _ _ _⟩, ⟨Nat.le_refl _, Nat.le_refl _, Nat.le_refl _⟩, ⟨HB.out.ge.1, HB.out.ge.2.1, HB.out.ge.2.2.1, HB.out.ge.2.2.2, fun b hb => by simp [sgA, enA, FS.zero, Value.ownBlock] at hb⟩, fun b hb => by simp [Value.ownBlock] at hb⟩
          · exact ⟨HE.out, Tail.nil _ _ _ _, ⟨0, [], Nat.le_refl _, Tail.nil _ _ _ _⟩, ⟨[], Tail.nil _ _ _ _⟩, ⟨Nat.le_refl _, Nat.le_refl _, Nat.le_refl _⟩, ⟨by show _ ≤ e; omega, by show _ ≤ rb; omega, by show _ ≤ fl; omega, by show _ ≤ q; omega, fun b hb => by simp [sgA, enA, FS.zero, Value.ownBlock] at hb⟩, fun b hb => by simp [Value.ownBlock] at hb⟩
          · intro x hx hy
            simp [Ad.mem_fp, sgA, enA, FS.zero, Value.ownBlock] at hx hy
            omega
        case measure => simp [intOf])
    · obtain ⟨A, B, er, hPI⟩ := hP
      have HPI := Lib.hid hPI
      clear hPI
      go_wp2_with fail
      refine (reads_any _ (HTT.out _ HPI.out.bel)).mono ?_
      rintro en w1 ⟨rfl, b1⟩
      have HP2 := Lib.hid (HPI.out.keep b1 HPI.out.hZ)
      clear b1
      go_wp2
      go_ret2
      exact ⟨_, rfl, _, _, _, HP2.out⟩
end Go.Proofs.YtlfcfmdblmedcaaGreatDoor.Mine
