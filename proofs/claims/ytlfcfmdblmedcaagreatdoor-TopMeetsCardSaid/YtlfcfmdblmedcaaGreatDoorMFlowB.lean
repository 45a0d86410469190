/- An entity in memory: its numbers, its timers, its flow, what it does just now; what stores leave. -/
import Derived.Test.YtlfcfmdblmedcaaGreatDoorMFlow
import Derived.Test.YtlfcfmdblmedcaaGreatDoorMTail
import Derived.Test.YtlfcfmdblmedcaaGreatDoorWSized
import Derived.Deep.RegionHeld3
namespace Go.Proofs.YtlfcfmdblmedcaaGreatDoor.Mine
open Go.RowKit Go.Maps Go.Proofs.YtlfcfmdblmedcaaGreatDoorW.PrintWords

/-- An effect of an entity. -/
structure XE where
  kind : Int
  tei : Int
  cmd : Bool
  fk : Int
  pf : Bool
  ns : Int
  nr : Int
  info : ByteArray
  data : ByteArray
  timer : Int
def XE.vals (x : XE) : List Value := [.int .i64 x.kind, .int .i64 0, .int .i64 x.tei, .bool x.cmd, .int .i64 x.fk, .bool x.pf, .int .i64 x.ns, .int .i64 x.nr, .string x.info, .string x.data, .int .i64 x.timer]
theorem XE.len (x : XE) : x.vals.length = 11 := rfl
theorem XE.cell1 (x : XE) : ∀ u ∈ x.vals, u.oneCell' = true := by
  intro u h
  simp [XE.vals] at h
  rcases h with rfl | rfl | rfl | rfl | rfl | rfl | rfl | rfl | rfl | rfl | rfl <;> rfl
def xTold (k : Int) (d : ByteArray) : XE := ⟨k, 0, false, 0, false, 0, 0, ⟨#[]⟩, d, 0⟩
def xTimer (k t : Int) : XE := ⟨k, 0, false, 0, false, 0, 0, ⟨#[]⟩, ⟨#[]⟩, t⟩
def xSend (cmd : Bool) (fk : Int) (pf : Bool) (ns nr : Int) (info : ByteArray) : XE := ⟨0, 70, cmd, fk, pf, ns, nr, info, ⟨#[]⟩, 0⟩

/-- A flow's numbers, its queue's slice, payloads and how many of them were sent. -/
structure FS where
  vs : Int
  va : Int
  vr : Int
  lv : Value
  ps : List ByteArray
  sent : Nat
def FS.zero : FS := ⟨0, 0, 0, .slice none 0 0, [], 0⟩
structure FlowAt (w : World) (fl q : Nat) (φ : FS) : Prop where
  box : w.heap[fl]? = some (.cells #[.int .i64 φ.vs, .int .i64 φ.va, .int .i64 φ.vr, .bool false, .bool false, .bool false, .int .i64 7, .pointer (some ⟨q, 0, none⟩)] 109 (0, 0))
  que : w.heap[q]? = some (.cells #[.int .i64 256, φ.lv, .int .i64 φ.sent] 139 (0, 0))
  row : Tail w 0 9 1 φ.lv φ.ps.length (φ.ps.map .string)
  ok : φ.sent ≤ φ.ps.length ∧ φ.ps.length ≤ 256
section
variable {w w' : World} {fl q : Nat} {φ : FS}
theorem FlowAt.z (h : FlowAt w fl q FS.zero) : FZ w fl q 7 256 := ⟨h.box, h.que⟩
theorem FZ.flow (h : FZ w fl q 7 256) : FlowAt w fl q FS.zero := ⟨h.box, h.que, Tail.nil _ _ _ _, by decide⟩
theorem FlowAt.move (h : FlowAt w fl q φ) (h1 : w'.heap[fl]? = w.heap[fl]?) (h2 : w'.heap[q]? = w.heap[q]?) (h3 : ∀ b, φ.lv.ownBlock = some b → w'.heap[b]? = w.heap[b]?) : FlowAt w' fl q φ :=
  ⟨h1.trans h.box, h2.trans h.que, h.row.keep h3, h.ok⟩
theorem FlowAt.lt (h : FlowAt w fl q φ) : fl < w.heap.size ∧ q < w.heap.size := ⟨lt_of_at h.box, lt_of_at h.que⟩
end

def rf (r0 r3 : Bool) : Int → Bool := fun x => if x = 200 then r0 else if x = 203 then r3 else false
theorem rf_0 (r0 r3 : Bool) : rf r0 r3 200 = r0 := by simp [rf]
theorem rf_3 (r0 r3 : Bool) : rf r0 r3 203 = r3 := by simp [rf]
theorem rf_put0 (r0 r3 c : Bool) : runPut (rf r0 r3) 200 c = rf c r3 := by
  funext x
  by_cases h : x = 200 <;> simp [runPut, rf, h]
theorem rf_put3 (r0 r3 c : Bool) : runPut (rf r0 r3) 203 c = rf r0 c := by
  funext x
  by_cases h : x = 203 <;> simp [runPut, rf, h]
theorem Runs.obj {w : World} {b n : Nat} {f : Int → Bool} (h : Runs w b f n) : ∃ es clock, w.heap[b]? = some (.map es clock) := by
  obtain ⟨D, ⟨es, clock, hb, hr⟩, h2⟩ := h
  exact ⟨es, clock, hb⟩

/-- An entity at e in the middle of a call that began in the world w0: its timers' map at rb (no more than c stores), its flow at fl, the flow's queue at q; out: what it does; X: frames in boxes of the callers. -/
structure EnI (X : List (Nat × Array Value)) (w0 w : World) (e rb fl q : Nat) (most st tei tries : Int) (asked r0 r3 : Bool) (c : Nat) (φ : FS) (ov : Value) (out : List XE) : Prop where
  box : w.heap[e]? = some (.cells #[.int .i64 most, .int .i64 st, .int .i64 tei, .int .i64 tries, .bool asked, .map (some rb), .slice none 0 0, .pointer (some ⟨fl, 0, none⟩), ov] 72 (0, 0))
  runs : ∃ n, n ≤ c ∧ Runs w rb (rf r0 r3) n
  flow : FlowAt w fl q φ
  row : Tail w w0.heap.size 98 11 ov out.length (rowOf XE.vals out)
  only : Only [e, rb, fl, q] w0 w
  old : e < w0.heap.size ∧ rb < w0.heap.size ∧ fl < w0.heap.size ∧ q < w0.heap.size
  boxes : ∀ x, x ∈ X → w.heap[x.1]? = some (.cells x.2 66 (0, 0))
section
variable {X : List (Nat × Array Value)} {w0 w w' : World} {e rb fl q : Nat} {most st tei tries : Int} {asked r0 r3 : Bool} {c : Nat} {φ : FS} {ov : Value} {out : List XE}
theorem EnI.ne (h : EnI X w0 w e rb fl q most st tei tries asked r0 r3 c φ ov out) : e ≠ rb ∧ e ≠ fl ∧ e ≠ q ∧ rb ≠ fl ∧ rb ≠ q ∧ fl ≠ q := by
  obtain ⟨n, hn, hr⟩ := h.runs
  obtain ⟨es, clock, hm⟩ := hr.obj
  have h1 := h.box
  have h2 := h.flow.box
  have h3 := h.flow.que
  refine ⟨?_, blk_ne h1 h2 (by decide), blk_ne h1 h3 (by decide), ?_, ?_, blk_ne h2 h3 (by decide)⟩
  · rintro rfl
    rw [h1] at hm
    injection hm with hm
    cases hm
  · rintro rfl
    rw [h2] at hm
    injection hm with hm
    cases hm
  · rintro rfl
    rw [h3] at hm
    injection hm with hm
    cases hm
theorem EnI.lt (h : EnI X w0 w e rb fl q most st tei tries asked r0 r3 c φ ov out) : e < w.heap.size ∧ rb < w.heap.size ∧ fl < w.heap.size ∧ q < w.heap.size := by
  have := h.old
  have := h.only.size
  omega
theorem EnI.size (h : EnI X w0 w e rb fl q most st tei tries asked r0 r3 c φ ov out) : w0.heap.size ≤ w.heap.size := h.only.size
theorem EnI.cells (h : EnI X w0 w e rb fl q most st tei tries asked r0 r3 c φ ov out) :
    w.cell? ⟨e, 0, none⟩ = some (.int .i64 most) ∧ w.cell? ⟨e, 1, none⟩ = some (.int .i64 st) ∧ w.cell? ⟨e, 2, none⟩ = some (.int .i64 tei) ∧ w.cell? ⟨e, 3, none⟩ = some (.int .i64 tries) ∧ w.cell? ⟨e, 4, none⟩ = some (.bool asked) ∧ w.cell? ⟨e, 5, none⟩ = some (.map (some rb)) ∧ w.cell? ⟨e, 6, none⟩ = some (.slice none 0 0) ∧ w.cell? ⟨e, 7, none⟩ = some (.pointer (some ⟨fl, 0, none⟩)) ∧ w.cell? ⟨e, 8, none⟩ = some ov := by
  have c0 := at_cell h.box 0
  have c1 := at_cell h.box 1
  have c2 := at_cell h.box 2
  have c3 := at_cell h.box 3
  have c4 := at_cell h.box 4
  have c5 := at_cell h.box 5
  have c6 := at_cell h.box 6
  have c7 := at_cell h.box 7
  have c8 := at_cell h.box 8
  simp only [List.getElem?_toArray, List.getElem?_cons_zero, List.getElem?_cons_succ] at c0 c1 c2 c3 c4 c5 c6 c7 c8
  exact ⟨c0, c1, c2, c3, c4, c5, c6, c7, c8⟩
theorem EnI.froz (h : EnI X w0 w e rb fl q most st tei tries asked r0 r3 c φ ov out) (i : Nat) : w.frozen? ⟨e, i, none⟩ = false := at_frozen h.box i
/-- What turns none of its blocks leaves it. -/
theorem EnI.keep (h : EnI X w0 w e rb fl q most st tei tries asked r0 r3 c φ ov out) (b : Below w.heap.size w w') : EnI X w0 w' e rb fl q most st tei tries asked r0 r3 c φ ov out := by
  obtain ⟨n, hn, hr⟩ := h.runs
  have hl := h.lt
  exact ⟨(b.block _ hl.1).trans h.box, ⟨n, hn, hr.move (b.block _ hl.2.1)⟩, h.flow.move (b.block _ hl.2.2.1) (b.block _ hl.2.2.2) (fun k hk => b.block _ (h.flow.row.lt k hk).2), h.row.keep (fun k hk => b.block _ (h.row.lt k hk).2), h.only.trans (Only.of_below b _), h.old, fun x hx => (b.block _ (lt_of_at (h.boxes x hx))).trans (h.boxes x hx)⟩
theorem EnI.drewN (h : EnI X w0 w e rb fl q most st tei tries asked r0 r3 c φ ov out) (n : Nat) : EnI X w0 (w.drewN n) e rb fl q most st tei tries asked r0 r3 c φ ov out :=
  h.keep ⟨rfl, rfl, rfl, Nat.le_refl _, fun _ _ => rfl⟩
theorem EnI.drew (h : EnI X w0 w e rb fl q most st tei tries asked r0 r3 c φ ov out) : EnI X w0 w.drew e rb fl q most st tei tries asked r0 r3 c φ ov out :=
  h.keep ⟨rfl, rfl, rfl, Nat.le_refl _, fun _ _ => rfl⟩
theorem EnI.alloc (h : EnI X w0 w e rb fl q most st tei tries asked r0 r3 c φ ov out) (o : Obj) : EnI X w0 (w.alloc o) e rb fl q most st tei tries asked r0 r3 c φ ov out :=
  h.keep ((Below.refl _ _).alloc (Nat.le_refl _) _)
/-- A frame is laid in a box. -/
theorem EnI.push (h : EnI X w0 w e rb fl q most st tei tries asked r0 r3 c φ ov out) (cs : Array Value) : EnI ((w.heap.size, cs) :: X) w0 (w.alloc (.cells cs 66)) e rb fl q most st tei tries asked r0 r3 c φ ov out := by
  have h1 := h.alloc (.cells cs 66)
  refine ⟨h1.box, h1.runs, h1.flow, h1.row, h1.only, h1.old, fun x hx => ?_⟩
  rcases List.mem_cons.1 hx with rfl | hx
  · exact at_new w _
  · exact h1.boxes x hx
theorem EnI.drop {x : Nat × Array Value} (h : EnI (x :: X) w0 w e rb fl q most st tei tries asked r0 r3 c φ ov out) : EnI X w0 w e rb fl q most st tei tries asked r0 r3 c φ ov out :=
  ⟨h.box, h.runs, h.flow, h.row, h.only, h.old, fun y hy => h.boxes y (List.mem_cons_of_mem _ hy)⟩
theorem EnI.top {b : Nat} {cs : Array Value} (h : EnI ((b, cs) :: X) w0 w e rb fl q most st tei tries asked r0 r3 c φ ov out) : w.heap[b]? = some (.cells cs 66 (0, 0)) := h.boxes _ (List.mem_cons_self ..)
theorem EnI.xlt (h : EnI X w0 w e rb fl q most st tei tries asked r0 r3 c φ ov out) : ∀ x, x ∈ X → x.1 < w.heap.size := fun x hx => lt_of_at (h.boxes x hx)
theorem EnI.more (h : EnI X w0 w e rb fl q most st tei tries asked r0 r3 c φ ov out) {c' : Nat} (hc : c ≤ c') : EnI X w0 w e rb fl q most st tei tries asked r0 r3 c' φ ov out := by
  obtain ⟨n, hn, hr⟩ := h.runs
  exact ⟨h.box, ⟨n, by omega, hr⟩, h.flow, h.row, h.only, h.old, h.boxes⟩
/-- A store into its own box. -/
theorem EnI.set (h : EnI X w0 w e rb fl q most st tei tries asked r0 r3 c φ ov out) (i : Nat) (v : Value) {most' st' tei' tries' : Int} {asked' : Bool} {ov' : Value} {out' : List XE}
    (hc : (#[.int .i64 most, .int .i64 st, .int .i64 tei, .int .i64 tries, .bool asked, .map (some rb), .slice none 0 0, .pointer (some ⟨fl, 0, none⟩), ov] : Array Value).setIfInBounds i v = #[.int .i64 most', .int .i64 st', .int .i64 tei', .int .i64 tries', .bool asked', .map (some rb), .slice none 0 0, .pointer (some ⟨fl, 0, none⟩), ov'])
    (hr : Tail w w0.heap.size 98 11 ov' out'.length (rowOf XE.vals out')) :
    EnI X w0 (w.setCell ⟨e, i, none⟩ v) e rb fl q most' st' tei' tries' asked' r0 r3 c φ ov' out' := by
  obtain ⟨n, hn, hrn⟩ := h.runs
  have hne := h.ne
  have far : ∀ k, k ≠ e → (w.setCell ⟨e, i, none⟩ v).heap[k]? = w.heap[k]? := fun k hk => Below.heap_setCell _ _ _ _ hk
  refine ⟨by rw [at_set h.box i v, hc], ⟨n, hn, hrn.move (far _ hne.1.symm)⟩, h.flow.move (far _ hne.2.1.symm) (far _ hne.2.2.1.symm) (fun k hk => far _ ?_), hr.keep (fun k hk => far _ ?_), h.only.setCell (Or.inl (by simp)) _, h.old, fun x hx => (far _ (blk_ne (h.boxes x hx) h.box (by decide))).trans (h.boxes x hx)⟩
  · rintro rfl
    exact h.flow.row.ne h.box (by decide) hk
  · rintro rfl
    exact hr.ne h.box (by decide) hk
theorem EnI.setSt (h : EnI X w0 w e rb fl q most st tei tries asked r0 r3 c φ ov out) (x : Int) : EnI X w0 (w.setCell ⟨e, 1, none⟩ (.int .i64 x)) e rb fl q most x tei tries asked r0 r3 c φ ov out := h.set 1 _ rfl h.row
theorem EnI.setTei (h : EnI X w0 w e rb fl q most st tei tries asked r0 r3 c φ ov out) (x : Int) : EnI X w0 (w.setCell ⟨e, 2, none⟩ (.int .i64 x)) e rb fl q most st x tries asked r0 r3 c φ ov out := h.set 2 _ rfl h.row
theorem EnI.setTries (h : EnI X w0 w e rb fl q most st tei tries asked r0 r3 c φ ov out) (x : Int) : EnI X w0 (w.setCell ⟨e, 3, none⟩ (.int .i64 x)) e rb fl q most st tei x asked r0 r3 c φ ov out := h.set 3 _ rfl h.row
theorem EnI.setAsked (h : EnI X w0 w e rb fl q most st tei tries asked r0 r3 c φ ov out) (x : Bool) : EnI X w0 (w.setCell ⟨e, 4, none⟩ (.bool x)) e rb fl q most st tei tries x r0 r3 c φ ov out := h.set 4 _ rfl h.row
theorem EnI.setUnits (h : EnI X w0 w e rb fl q most st tei tries asked r0 r3 c φ ov out) : EnI X w0 (w.setCell ⟨e, 6, none⟩ (.slice none 0 0)) e rb fl q most st tei tries asked r0 r3 c φ ov out := h.set 6 _ rfl h.row
theorem EnI.setOut (h : EnI X w0 w e rb fl q most st tei tries asked r0 r3 c φ ov out) : EnI X w0 (w.setCell ⟨e, 8, none⟩ (.slice none 0 0)) e rb fl q most st tei tries asked r0 r3 c φ (.slice none 0 0) [] := h.set 8 _ rfl (Tail.nil _ _ _ _)
/-- What was appended is stored. -/
theorem EnI.grown (h : EnI X w0 w e rb fl q most st tei tries asked r0 r3 c φ ov out) {w1 : World} {v1 : Value} {x : XE} (ht : Tail w1 w0.heap.size 98 11 v1 (out.length + 1) (rowOf XE.vals out ++ x.vals)) (hg : w.grownBy w1 ov.ownBlock) :
    (w1.cell? ⟨e, 8, none⟩ = some ov ∧ w1.frozen? ⟨e, 8, none⟩ = false) ∧ EnI X w0 (w1.setCell ⟨e, 8, none⟩ v1) e rb fl q most st tei tries asked r0 r3 c φ v1 (out ++ [x]) := by
  obtain ⟨n, hn, hrn⟩ := h.runs
  obtain ⟨es, clock, hm⟩ := hrn.obj
  have hne := h.ne
  have hl := h.lt
  have n1 : some e ≠ ov.ownBlock := fun k => h.row.ne h.box (by decide) k.symm
  have n2 : some fl ≠ ov.ownBlock := fun k => h.row.ne h.flow.box (by decide) k.symm
  have n3 : some q ≠ ov.ownBlock := fun k => h.row.ne h.flow.que (by decide) k.symm
  have n4 : some rb ≠ ov.ownBlock := fun k => h.row.neMap hm k.symm
  have n5 : ∀ b, φ.lv.ownBlock = some b → some b ≠ ov.ownBlock := fun b hb k => by
    obtain ⟨cs, hcs⟩ := h.flow.row.obj b hb
    exact h.row.ne hcs (by decide) k.symm
  have hbox : w1.heap[e]? = _ := (hg.block e hl.1 n1).trans h.box
  have far : ∀ k, k ≠ e → (w1.setCell ⟨e, 8, none⟩ v1).heap[k]? = w1.heap[k]? := fun k hk => Below.heap_setCell _ _ _ _ hk
  have c8 := at_cell hbox 8
  simp only [List.getElem?_toArray, List.getElem?_cons_zero, List.getElem?_cons_succ] at c8
  refine ⟨⟨c8, at_frozen hbox 8⟩, by rw [at_set hbox 8 v1]; rfl, ⟨n, hn, hrn.move ((far _ hne.1.symm).trans (hg.block rb hl.2.1 n4))⟩, h.flow.move ((far _ hne.2.1.symm).trans (hg.block fl hl.2.2.1 n2)) ((far _ hne.2.2.1.symm).trans (hg.block q hl.2.2.2 n3)) (fun b hb => (far _ ?_).trans (hg.block b (h.flow.row.lt b hb).2 (n5 b hb))), ?_, ?_, h.old, fun x hx => ((far _ (blk_ne (h.boxes x hx) h.box (by decide))).trans (hg.block _ (lt_of_at (h.boxes x hx)) (fun k => h.row.ne (h.boxes x hx) (by decide) k.symm))).trans (h.boxes x hx)⟩
  · rintro rfl
    exact h.flow.row.ne h.box (by decide) hb
  · rw [List.length_append, rowOf_snoc]
    exact ht.keep (fun b hb => far _ (by rintro rfl; exact ht.ne hbox (by decide) hb))
  · have hk : Only [e, rb, fl, q] w0 w1 := ⟨hg.os.trans h.only.os, hg.tape.trans h.only.tape, hg.output.trans h.only.output, Nat.le_trans h.only.size hg.size, fun k hk hs => by
      rw [← h.only.block k hk hs]
      refine hg.block k (Nat.lt_of_lt_of_le hk h.only.size) (fun h2 => ?_)
      have := (h.row.lt k h2.symm).1
      omega⟩
    exact hk.setCell (Or.inl (by simp)) _
/-- Its timers' map was written. -/
theorem EnI.timer (h : EnI X w0 w e rb fl q most st tei tries asked r0 r3 c φ ov out) {a0 a3 : Bool} {n : Nat} (hn : n ≤ c) (hr : Runs w' rb (rf a0 a3) n) (k : Only [rb] w w') : EnI X w0 w' e rb fl q most st tei tries asked a0 a3 c φ ov out := by
  obtain ⟨n1, hn1, hrn⟩ := h.runs
  obtain ⟨es, clock, hm⟩ := hrn.obj
  have hl := h.lt
  have hne := h.ne
  refine ⟨k.at h.box (by simp; exact hne.1), ⟨n, hn, hr⟩, h.flow.move (k.block _ hl.2.2.1 (by simp; exact hne.2.2.2.1.symm)) (k.block _ hl.2.2.2 (by simp; exact hne.2.2.2.2.1.symm)) (fun b hb => k.block _ (h.flow.row.lt b hb).2 ?_), h.row.keep (fun b hb => k.block _ (h.row.lt b hb).2 ?_), h.only.trans (k.mono (by simp)), h.old, fun x hx => k.at (h.boxes x hx) (by simp; intro e; have hb := h.boxes x hx; rw [e, hm] at hb; injection hb with hb; cases hb)⟩
  · simp
    rintro rfl
    exact h.flow.row.neMap hm hb
  · simp
    rintro rfl
    exact h.row.neMap hm hb
/-- Its flow was turned. -/
theorem EnI.turn (h : EnI X w0 w e rb fl q most st tei tries asked r0 r3 c φ ov out) {φ' : FS} (hf : FlowAt w' fl q φ') (k : ∀ b, b < w.heap.size → b ≠ fl → b ≠ q → φ.lv.ownBlock ≠ some b → w'.heap[b]? = w.heap[b]?) (ks : Only [e, rb, fl, q] w0 w') : EnI X w0 w' e rb fl q most st tei tries asked r0 r3 c φ' ov out := by
  obtain ⟨n1, hn1, hrn⟩ := h.runs
  obtain ⟨es, clock, hm⟩ := hrn.obj
  have hl := h.lt
  have hne := h.ne
  refine ⟨(k e hl.1 hne.2.1 hne.2.2.1 (h.flow.row.ne h.box (by decide))).trans h.box, ⟨n1, hn1, hrn.move (k rb hl.2.1 hne.2.2.2.1 hne.2.2.2.2.1 (h.flow.row.neMap hm))⟩, hf, h.row.keep (fun b hb => ?_), ks, h.old, fun x hx => (k _ (lt_of_at (h.boxes x hx)) (blk_ne (h.boxes x hx) h.flow.box (by decide)) (blk_ne (h.boxes x hx) h.flow.que (by decide)) (h.flow.row.ne (h.boxes x hx) (by decide))).trans (h.boxes x hx)⟩
  obtain ⟨cs, hcs⟩ := h.row.obj b hb
  exact k b (h.row.lt b hb).2 (blk_ne hcs h.flow.box (by decide)) (blk_ne hcs h.flow.que (by decide)) (h.flow.row.ne hcs (by decide))
end

/-- An entity between calls. -/
def EnAt (w : World) (e rb fl q : Nat) (most st tries : Int) (asked r0 r3 : Bool) (c : Nat) (φ : FS) : Prop := EnI [] w w e rb fl q most st 70 tries asked r0 r3 c φ (.slice none 0 0) []
theorem infoXE : (Tryz.prog.info? 98).map (fun i => (i.zero, i.size, i.bytes)) = some (some (.agg #[.int .i64 0, .int .i64 0, .int .i64 0, .bool false, .int .i64 0, .bool false, .int .i64 0, .int .i64 0, .string ⟨#[]⟩, .string ⟨#[]⟩, .int .i64 0]), 11, 104) := by kernel_rfl
end Go.Proofs.YtlfcfmdblmedcaaGreatDoor.Mine
/- flow's View, and queue's Sent and Left. -/
namespace Go.Proofs.YtlfcfmdblmedcaaGreatDoor.Mine
open Go.RowKit Go.Proofs.YtlfcfmdblmedcaaGreatDoorW.PrintWords
attribute [local go_sem] max_int min_int max_of_two min_of_two

theorem FlowAt.cells {w : World} {fl q : Nat} {φ : FS} (h : FlowAt w fl q φ) :
    w.cell? ⟨fl, 0, none⟩ = some (.int .i64 φ.vs) ∧ w.cell? ⟨fl, 1, none⟩ = some (.int .i64 φ.va) ∧ w.cell? ⟨fl, 2, none⟩ = some (.int .i64 φ.vr) ∧ w.cell? ⟨fl, 3, none⟩ = some (.bool false) ∧ w.cell? ⟨fl, 4, none⟩ = some (.bool false) ∧ w.cell? ⟨fl, 5, none⟩ = some (.bool false) ∧ w.cell? ⟨fl, 6, none⟩ = some (.int .i64 7) ∧ w.cell? ⟨fl, 7, none⟩ = some (.pointer (some ⟨q, 0, none⟩)) := by
  have c0 := at_cell h.box 0
  have c1 := at_cell h.box 1
  have c2 := at_cell h.box 2
  have c3 := at_cell h.box 3
  have c4 := at_cell h.box 4
  have c5 := at_cell h.box 5
  have c6 := at_cell h.box 6
  have c7 := at_cell h.box 7
  simp only [List.getElem?_toArray, List.getElem?_cons_zero, List.getElem?_cons_succ] at c0 c1 c2 c3 c4 c5 c6 c7
  exact ⟨c0, c1, c2, c3, c4, c5, c6, c7⟩
theorem FlowAt.qells {w : World} {fl q : Nat} {φ : FS} (h : FlowAt w fl q φ) :
    w.cell? ⟨q, 0, none⟩ = some (.int .i64 256) ∧ w.cell? ⟨q, 1, none⟩ = some φ.lv ∧ w.cell? ⟨q, 2, none⟩ = some (.int .i64 φ.sent) := by
  have c0 := at_cell h.que 0
  have c1 := at_cell h.que 1
  have c2 := at_cell h.que 2
  simp only [List.getElem?_toArray, List.getElem?_cons_zero, List.getElem?_cons_succ] at c0 c1 c2
  exact ⟨c0, c1, c2⟩
theorem FlowAt.below {w w' : World} {fl q : Nat} {φ : FS} (h : FlowAt w fl q φ) (b : Below w.heap.size w w') : FlowAt w' fl q φ :=
  h.move (b.block _ h.lt.1) (b.block _ h.lt.2) (fun k hk => b.block _ (h.row.lt k hk).2)
theorem sent_g (q : Nat) (s : Nat) (w : World) (c2 : w.cell? ⟨q, 2, none⟩ = some (.int .i64 s)) :
    Calls Tryz.prog 46 #[.pointer (some ⟨q, 0, none⟩)] w fun e w' => e = .returned (.int .i64 s) ∧ w' = w := by
  go_enter Tryz.func46, Tryz.ntmps46
  go_wp2
  go_ret
  exact ⟨rfl, rfl⟩
theorem left_g (q : Nat) (s n c : Nat) (A : Option Addr) (w : World) (c1 : w.cell? ⟨q, 1, none⟩ = some (.slice A n c)) (c2 : w.cell? ⟨q, 2, none⟩ = some (.int .i64 s)) (hs : s ≤ n) (hn : n ≤ 256) :
    Calls Tryz.prog 47 #[.pointer (some ⟨q, 0, none⟩)] w fun e w' => e = .returned (.int .i64 ((n : Int) - (s : Int))) ∧ ∃ n, w' = w.drewN n := by
  go_enter Tryz.func47, Tryz.ntmps47
  go_wp2
  go_quiet (fail)
  go_wp2
  go_ret
  exact ⟨rfl, _, rfl⟩
theorem at_put {w : World} {g : Nat} {t : TypeId} {cs ds : Array Value} (h : w.heap[g]? = some (.cells cs t (0, 0))) (i : Nat) (v : Value) (e : cs.setIfInBounds i v = ds) : (w.setCell ⟨g, i, none⟩ v).heap[g]? = some (.cells ds t (0, 0)) := by
  rw [at_set h i v, e]
theorem set8 {W : World} {g : Nat} {t : TypeId} {a0 a1 a2 a3 a4 a5 a6 a7 : Value} (b0 b1 b2 b3 b4 b5 b6 b7 : Value) (h : W.heap[g]? = some (.cells #[a0, a1, a2, a3, a4, a5, a6, a7] t (0, 0))) : ((((((((W.setCell ⟨g, 0, none⟩ b0).setCell ⟨g, 1, none⟩ b1).setCell ⟨g, 2, none⟩ b2).setCell ⟨g, 3, none⟩ b3).setCell ⟨g, 4, none⟩ b4).setCell ⟨g, 5, none⟩ b5).setCell ⟨g, 6, none⟩ b6).setCell ⟨g, 7, none⟩ b7).heap[g]? = some (.cells #[b0, b1, b2, b3, b4, b5, b6, b7] t (0, 0)) :=
  (at_put (ds := #[b0, b1, b2, b3, b4, b5, b6, b7]) (at_put (ds := #[b0, b1, b2, b3, b4, b5, b6, a7]) (at_put (ds := #[b0, b1, b2, b3, b4, b5, a6, a7]) (at_put (ds := #[b0, b1, b2, b3, b4, a5, a6, a7]) (at_put (ds := #[b0, b1, b2, b3, a4, a5, a6, a7]) (at_put (ds := #[b0, b1, b2, a3, a4, a5, a6, a7]) (at_put (ds := #[b0, b1, a2, a3, a4, a5, a6, a7]) (at_put (ds := #[b0, a1, a2, a3, a4, a5, a6, a7]) h 0 b0 rfl) 1 b1 rfl) 2 b2 rfl) 3 b3 rfl) 4 b4 rfl) 5 b5 rfl) 6 b6 rfl) 7 b7 rfl)
theorem below8 {W w : World} {g : Nat} {B : Nat} (b0 b1 b2 b3 b4 b5 b6 b7 : Value) (h : Below B w W) (hg : B ≤ g) : Below B w ((((((((W.setCell ⟨g, 0, none⟩ b0).setCell ⟨g, 1, none⟩ b1).setCell ⟨g, 2, none⟩ b2).setCell ⟨g, 3, none⟩ b3).setCell ⟨g, 4, none⟩ b4).setCell ⟨g, 5, none⟩ b5).setCell ⟨g, 6, none⟩ b6).setCell ⟨g, 7, none⟩ b7) := (Below.setCell (Below.setCell (Below.setCell (Below.setCell (Below.setCell (Below.setCell (Below.setCell (Below.setCell h hg b0) hg b1) hg b2) hg b3) hg b4) hg b5) hg b6) hg b7)
theorem below_drewN {B : Nat} {a w : World} (h : Below B a w) (n : Nat) : Below B a (w.drewN n) := ⟨h.os, h.tape, h.output, h.size, h.block⟩
def fvG (φ : FS) : Value := .agg #[.int .i64 φ.vs, .int .i64 φ.va, .int .i64 φ.vr, .bool false, .bool false, .bool false, .int .i64 φ.sent, .int .i64 ((φ.ps.length : Int) - (φ.sent : Int))]
set_option maxHeartbeats 2000000 in
set_option maxRecDepth 100000 in
theorem fview_g (fl q : Nat) (φ : FS) (w : World) (h : FlowAt w fl q φ) :
    Calls Tryz.prog 21 #[.pointer (some ⟨fl, 0, none⟩)] w fun e w' => e = .returned (fvG φ) ∧ Below w.heap.size w w' := by
  obtain ⟨d0, d1, d2, d3, d4, d5, d6, d7⟩ := h.cells
  obtain ⟨c0, c1, c2⟩ := h.qells
  obtain ⟨ok1, ok2⟩ := h.ok
  obtain ⟨A, cp, hlv, _⟩ := h.row.slice
  have hlt := lt_of_at h.box
  have hlq := lt_of_at h.que
  obtain ⟨vs, va, vr, lv, ps, sent⟩ := φ
  dsimp only at hlv d0 d1 d2 c1 c2 ok1 ok2
  subst hlv
  unfold fvG
  dsimp only
  obtain ⟨n, hn⟩ : ∃ n, ps.length = n := ⟨_, rfl⟩
  rw [hn] at c1 ok1 ok2 ⊢
  clear h hn
  have n1 : q ≠ w.heap.size := by omega
  have n2 : fl ≠ w.heap.size := by omega
  have n3 : w.heap.size ≠ q := by omega
  have n4 : w.heap.size ≠ fl := by omega
  go_enter Tryz.func21, Tryz.ntmps21
  go_wp2
  go_region_held3 (fun w' => w'.cell? ⟨q, 1, none⟩ = some (.slice A n cp) ∧ w'.cell? ⟨q, 2, none⟩ = some (.int .i64 sent) ∧ w'.cell? ⟨fl, 7, none⟩ = some (.pointer (some ⟨q, 0, none⟩)) ∧ w'.cell? ⟨w.heap.size + 1, 0, none⟩ = some (.int .i64 vs) ∧ w'.cell? ⟨w.heap.size + 1, 1, none⟩ = some (.int .i64 va) ∧ w'.cell? ⟨w.heap.size + 1, 2, none⟩ = some (.int .i64 vr) ∧ w'.cell? ⟨w.heap.size + 1, 3, none⟩ = some (.bool false) ∧ w'.cell? ⟨w.heap.size + 1, 4, none⟩ = some (.bool false) ∧ w'.cell? ⟨w.heap.size + 1, 5, none⟩ = some (.bool false)) (go_keep) (first | (go_at_call 46; refine (sent_g q sent _ ?_).mono ?_; (first | assumption | (simp; assumption) | simp_all | (trace_state; fail)); rintro e w1 ⟨rfl, rfl⟩) | (go_at_call 47; refine (left_g q sent n cp A _ ?_ ?_ ok1 ok2).mono ?_; (first | assumption | (simp; assumption) | simp_all | (trace_state; fail)); (first | assumption | (simp; assumption) | simp_all | (trace_state; fail)); rintro e w1 ⟨rfl, n, rfl⟩))
  go_wp2
  have hb := (((Below.refl w.heap.size w).alloc (Nat.le_refl _) (.cells #[.int .i64 0, .int .i64 0, .int .i64 0, .bool false, .bool false, .bool false, .int .i64 0, .int .i64 0] 36)).alloc (by simp) (.cells #[.int .i64 vs, .int .i64 va, .int .i64 vr, .bool false, .bool false, .bool false] 106))
  have ha := at_alloc (at_new w (.cells #[.int .i64 0, .int .i64 0, .int .i64 0, .bool false, .bool false, .bool false, .int .i64 0, .int .i64 0] 36)) (.cells #[.int .i64 vs, .int .i64 va, .int .i64 vr, .bool false, .bool false, .bool false] 106)
  refine bodyPost_ret (results_cell_row rfl _ _ w.heap.size 36 #[.int .i64 vs, .int .i64 va, .int .i64 vr, .bool false, .bool false, .bool false, .int .i64 sent, .int .i64 _] (0, 0) _ rfl (set8 _ _ _ _ _ _ _ _ ha) Tryz.underlying36 rfl (by kernel_rfl)) rfl ?_
  exact ⟨rfl, below8 _ _ _ _ _ _ _ _ (below_drewN hb _) (Nat.le_refl _)⟩
end Go.Proofs.YtlfcfmdblmedcaaGreatDoor.Mine
/- flow's and queue's methods while a payload is on its way. -/
namespace Go.Proofs.YtlfcfmdblmedcaaGreatDoor.Mine
open Go.RowKit Go.Proofs.YtlfcfmdblmedcaaGreatDoorW.PrintWords
attribute [local go_sem] max_int min_int max_of_two min_of_two

theorem infoStr : (Tryz.prog.info? 9).map (fun i => (i.zero, i.size, i.bytes)) = some (some (.string ⟨#[]⟩), 1, 16) := by kernel_rfl
theorem left_0 (q s c : Nat) (A : Option Addr) (w : World) (c1 : w.cell? ⟨q, 1, none⟩ = some (.slice A s c)) (c2 : w.cell? ⟨q, 2, none⟩ = some (.int .i64 s)) (hs : s ≤ 256) :
    Calls Tryz.prog 47 #[.pointer (some ⟨q, 0, none⟩)] w fun e w' => e = .returned (.int .i64 0) ∧ ∃ n, w' = w.drewN n := by
  refine (left_g q s s c A w c1 c2 (Nat.le_refl _) hs).mono ?_
  rintro e w' ⟨rfl, h⟩
  exact ⟨by simp, h⟩
theorem left_1 (q c : Nat) (A : Option Addr) (w : World) (c1 : w.cell? ⟨q, 1, none⟩ = some (.slice A 1 c)) (c2 : w.cell? ⟨q, 2, none⟩ = some (.int .i64 0)) :
    Calls Tryz.prog 47 #[.pointer (some ⟨q, 0, none⟩)] w fun e w' => e = .returned (.int .i64 1) ∧ ∃ n, w' = w.drewN n := by
  refine (left_g q 0 1 c A w c1 c2 (by decide) (by decide)).mono ?_
  rintro e w' ⟨rfl, h⟩
  exact ⟨by simp, h⟩
theorem room_7 (w : World) : Calls Tryz.prog 102 #[.int .i64 0, .int .i64 0, .int .i64 7] w fun e w' => e = .returned (.int .i64 7) ∧ w = w' := by
  refine (room_any 0 0 7 w).mono ?_
  rintro e w' ⟨rfl, h⟩
  exact ⟨rfl, h⟩
/-- Nothing is left to be sent. -/
theorem takeNone_g (fl q : Nat) (φ : FS) (w : World) (h : FlowAt w fl q φ) (hz : φ.ps.length = φ.sent) :
    Calls Tryz.prog 92 #[.pointer (some ⟨fl, 0, none⟩)] w fun e w' => e = .returned (.tuple #[.int .i64 0, .string ⟨#[]⟩, .bool false]) ∧ ∃ n, w' = w.drewN n := by
  obtain ⟨d0, d1, d2, d3, d4, d5, d6, d7⟩ := h.cells
  obtain ⟨c0, c1, c2⟩ := h.qells
  obtain ⟨ok1, ok2⟩ := h.ok
  obtain ⟨A, cp, hlv, _⟩ := h.row.slice
  rw [hlv] at c1
  rw [hz] at c1 ok2
  have C1 := Lib.hid c1
  have C2 := Lib.hid c2
  have OK := Lib.hid ok2
  clear h hz hlv c0 c1 c2 ok1 ok2 d0 d1 d2 d4 d5 d6
  go_enter Tryz.func92, Tryz.ntmps92
  go_wp2
  go_quiet ((go_at_call 47; exact Calls.quiet_of (left_0 q φ.sent cp A _ C1.out C2.out OK.out)))
  go_wp2
  refine bodyPost_ret (results_tmp3 rfl _ _ _) rfl ?_
  exact ⟨rfl, _, rfl⟩
/-- The peer isn't busy, and wasn't. -/
theorem setPeer_g (fl q : Nat) (φ : FS) (w : World) (h : FlowAt w fl q φ) :
    Calls Tryz.prog 97 #[.pointer (some ⟨fl, 0, none⟩), .bool false] w fun e w' => e = .returned (.tuple #[]) ∧ w' = w := by
  obtain ⟨d0, d1, d2, d3, d4, d5, d6, d7⟩ := h.cells
  have f3 := at_frozen h.box 3
  have hs : w.setCell ⟨fl, 3, none⟩ (.bool false) = w := same_set h.box rfl
  clear h d0 d1 d2 d4 d5 d6 d7
  go_enter Tryz.func97, Tryz.ntmps97
  go_wp2
  go_end0
  exact ⟨rfl, rfl⟩
theorem push_d (fl q : Nat) (s : ByteArray) (w : World) (h : FlowAt w fl q FS.zero) (hs : s.size ≤ 260) :
    Calls Tryz.prog 67 #[.pointer (some ⟨fl, 0, none⟩), .string s] w fun e w' => e = .returned (.int .i64 0) ∧ ∃ lv, FlowAt w' fl q ⟨0, 0, 0, lv, [s], 0⟩ ∧ (∀ b, lv.ownBlock = some b → w.heap.size ≤ b) ∧ Only [q] w w' := by
  have hq : Calls Tryz.prog 91 #[.pointer (some ⟨q, 0, none⟩), .string s] w fun e w' => e = .returned (.int .i64 0) ∧ ∃ lv, FlowAt w' fl q ⟨0, 0, 0, lv, [s], 0⟩ ∧ (∀ b, lv.ownBlock = some b → w.heap.size ≤ b) ∧ Only [q] w w' := by
    obtain ⟨c0, c1, c2⟩ := h.qells
    have hne := blk_ne h.box h.que (by decide)
    have f1 := at_frozen h.que 1
    have hlt := h.lt
    have c1' : w.cell? ⟨q, 1, none⟩ = some (.slice none 0 0) := c1
    have hss : (s.size : Int) ≤ 260 := by omega
    have H := Lib.hid h
    clear h c1 hs
    go_enter Tryz.func91, Tryz.ntmps91
    go_wp2_with fail
    go_quiet (fail)
    generalize hW : w.drewN _ = W at *
    have HD : FlowAt W fl q FS.zero := by subst hW; exact H.out.below ⟨rfl, rfl, rfl, Nat.le_refl _, fun _ _ => rfl⟩
    have hsz : W.heap.size = w.heap.size := by subst hW; rfl
    have hb : Below w.heap.size w W := by subst hW; exact below_drewN (Below.refl _ _) _
    have x1 := at_cell HD.que 1
    have y1 := at_frozen HD.que 1
    simp [FS.zero] at x1
    have HH := Lib.hid HD
    have HB := Lib.hid hb
    have HS := Lib.hid hsz
    clear hW HD hb hsz c1' f1 c0 c2 hne hlt
    go_wp2_with (at_builtin; refine wpList_append_tail (W := W) W.heap.size rfl _ _ 43 9 _ 1 16 rfl Tryz.underlying43 infoStr rfl (by decide) (.slice none 0 0) 0 [] [.string s] rfl rfl rfl (by simp [Value.oneCell']) (Tail.nil _ _ _ _) (Nat.le_refl _) (by decide) (by decide) ?_)
    intro v1 w1 ht hg _
    obtain ⟨A1, cp1, rfl, _⟩ := ht.slice
    have hq1 : w1.heap[q]? = W.heap[q]? := hg.block q HH.out.lt.2 (by simp [Value.ownBlock])
    have hf1 : w1.heap[fl]? = W.heap[fl]? := hg.block fl HH.out.lt.1 (by simp [Value.ownBlock])
    have hqq := hq1.trans HH.out.que
    have z1 := at_cell hqq 1
    have u1 := at_frozen hqq 1
    simp [FS.zero] at z1
    have HT := Lib.hid ht
    have HG := Lib.hid hg
    have HQ := Lib.hid hqq
    have HF := Lib.hid (hf1.trans HH.out.box)
    clear ht hg hqq hf1 hq1 x1 y1
    go_wp2
    go_ret
    have hne := blk_ne HF.out HQ.out (by decide)
    have htl : ∀ b, (Value.slice A1 1 cp1).ownBlock = some b → b ≠ q := fun b hb e => by
      subst e
      exact HT.out.ne HQ.out (by decide) hb
    refine ⟨rfl, .slice A1 1 cp1, ⟨(Below.heap_setCell _ _ _ _ hne).trans HF.out, at_put HQ.out 1 _ rfl, ?_, by simp⟩, fun b hb => ?_, ?_⟩
    · exact (HT.out.keep (fun b hb => Below.heap_setCell _ _ _ _ (htl b hb))).low (Nat.zero_le _)
    · have := (HT.out.lt b hb).1
      have := HS.out
      omega
    · have k1 : Only [q] w w1 := ⟨HG.out.os.trans HB.out.os, HG.out.tape.trans HB.out.tape, HG.out.output.trans HB.out.output, Nat.le_trans HB.out.size HG.out.size, fun k hk _ => (HG.out.block k (by have := HS.out; omega) (by simp [Value.ownBlock])).trans (HB.out.block k hk)⟩
      exact k1.setCell (Or.inl (by simp)) _
  obtain ⟨d0, d1, d2, d3, d4, d5, d6, d7⟩ := h.cells
  clear h hs d0 d1 d2 d3 d4 d5 d6
  go_enter Tryz.func67, Tryz.ntmps67
  go_wp2_with fail
  refine hq.mono ?_
  rintro e w1 ⟨rfl, h1⟩
  go_wp2
  go_ret
  exact ⟨rfl, h1⟩
theorem qtake_d (q g o cp : Nat) (s : ByteArray) (w : World) (c1 : w.cell? ⟨q, 1, none⟩ = some (.slice (some ⟨g, o, none⟩) 1 cp)) (c2 : w.cell? ⟨q, 2, none⟩ = some (.int .i64 0)) (f2 : w.frozen? ⟨q, 2, none⟩ = false) (cs : w.cell? ⟨g, o, none⟩ = some (.string s)) (n2 : g ≠ q) :
    Calls Tryz.prog 103 #[.pointer (some ⟨q, 0, none⟩)] w fun e w' => e = .returned (.tuple #[.string s, .bool true]) ∧ ∃ a b, w' = ((w.drewN a).setCell ⟨q, 2, none⟩ (.int .i64 1)).drewN b := by
  go_enter Tryz.func103, Tryz.ntmps103
  go_wp2_with fail
  refine (left_1 q cp _ w c1 c2).mono ?_
  rintro e w1 ⟨rfl, a, rfl⟩
  go_wp2
  go_quiet (fail)
  go_wp2
  refine bodyPost_ret (results_tmp2 rfl _ _ _) rfl ?_
  exact ⟨rfl, a, _, rfl⟩
theorem take_d (fl q g o cp : Nat) (s : ByteArray) (w : World) (h : FlowAt w fl q ⟨0, 0, 0, .slice (some ⟨g, o, none⟩) 1 cp, [s], 0⟩) :
    Calls Tryz.prog 92 #[.pointer (some ⟨fl, 0, none⟩)] w fun e w' => e = .returned (.tuple #[.int .i64 0, .string s, .bool true]) ∧ FlowAt w' fl q ⟨1, 0, 0, .slice (some ⟨g, o, none⟩) 1 cp, [s], 1⟩ ∧ Only [fl, q] w w' := by
  obtain ⟨d0, d1, d2, d3, d4, d5, d6, d7⟩ := h.cells
  obtain ⟨c0, c1, c2⟩ := h.qells
  have cs := h.row.at 0 (.string s) rfl
  have hne := blk_ne h.box h.que (by decide)
  have n1 : q ≠ g := fun e => h.row.ne h.que (by decide) (by rw [e]; rfl)
  have n2 : fl ≠ g := fun e => h.row.ne h.box (by decide) (by rw [e]; rfl)
  have f2 := at_frozen h.que 2
  have g0 := at_frozen h.box 0
  dsimp only [Nat.add_zero] at d0 d1 d2 c1 c2 cs
  have n3 := n1.symm
  have n4 := n2.symm
  have n5 := hne.symm
  have H := Lib.hid h
  clear h
  have C1 := Lib.hid c1
  have C2 := Lib.hid c2
  have C3 := Lib.hid cs
  have F2 := Lib.hid f2
  clear c1 c2 cs f2
  go_enter Tryz.func92, Tryz.ntmps92
  go_wp2
  go_quiet (first | (go_at_call 47; exact Calls.quiet_of (left_1 q cp _ _ C1.out C2.out)) | (go_at_call 102; exact Calls.quiet_of_same ((room_7 _).mono fun _ _ ⟨a, b⟩ => ⟨a, b.symm⟩)))
  go_wp2_with fail
  refine (qtake_d q g o cp s (w.drewN nq) C1.out C2.out F2.out C3.out n3).mono ?_
  rintro e w1 ⟨rfl, a, b, rfl⟩
  go_wp2_with (go_at_call 104; refine (add_any _ _ _).mono ?_; rintro e w2 ⟨rfl, rfl⟩)
  refine bodyPost_ret (results_tmp3 rfl _ _ _) rfl ?_
  have q1 : q ≠ g := n1
  have f1 : fl ≠ g := n2
  have h1 : (w.setCell ⟨q, 2, none⟩ (.int .i64 1)).heap[fl]? = _ := (Below.heap_setCell w ⟨q, 2, none⟩ (.int .i64 1) fl hne).trans H.out.box
  have h2 : ((w.setCell ⟨q, 2, none⟩ (.int .i64 1)).setCell ⟨fl, 0, none⟩ (.int .i64 1)).heap[q]? = _ := (Below.heap_setCell (w.setCell ⟨q, 2, none⟩ (.int .i64 1)) ⟨fl, 0, none⟩ (.int .i64 1) q n5).trans (at_put H.out.que 2 (.int .i64 1) rfl)
  have h3 : ((w.setCell ⟨q, 2, none⟩ (.int .i64 1)).setCell ⟨fl, 0, none⟩ (.int .i64 1)).heap[g]? = w.heap[g]? := (Below.heap_setCell (w.setCell ⟨q, 2, none⟩ (.int .i64 1)) ⟨fl, 0, none⟩ (.int .i64 1) g n4).trans (Below.heap_setCell w ⟨q, 2, none⟩ (.int .i64 1) g n3)
  have k : Only [fl, q] w ((w.setCell ⟨q, 2, none⟩ (.int .i64 1)).setCell ⟨fl, 0, none⟩ (.int .i64 1)) := ((Only.refl [fl, q] w).setCell (p := ⟨q, 2, none⟩) (Or.inl (by simp)) _).setCell (p := ⟨fl, 0, none⟩) (Or.inl (by simp)) _
  refine ⟨rfl, ⟨at_put h1 0 (.int .i64 1) rfl, h2, H.out.row.keep (fun b hb => ?_), by simp⟩, ⟨k.os, k.tape, k.output, k.size, k.block⟩⟩
  injection hb with hb
  subst hb
  exact h3
/-- The next I comes. -/
theorem come_d (fl q : Nat) (vs va : Int) (lv : Value) (ps : List ByteArray) (sent : Nat) (w : World) (h : FlowAt w fl q ⟨vs, va, 0, lv, ps, sent⟩) :
    Calls Tryz.prog 94 #[.pointer (some ⟨fl, 0, none⟩), .int .i64 0] w fun e w' => e = .returned (.int .i64 0) ∧ FlowAt w' fl q ⟨vs, va, 1, lv, ps, sent⟩ ∧ Only [fl] w w' := by
  obtain ⟨d0, d1, d2, d3, d4, d5, d6, d7⟩ := h.cells
  have hne := blk_ne h.box h.que (by decide)
  have f2 := at_frozen h.box 2
  have f5 := at_frozen h.box 5
  have H := Lib.hid h
  clear h d0 d1 d3 d6 d7
  dsimp only at d2
  go_enter Tryz.func94, Tryz.ntmps94
  go_wp2
  go_quiet ((go_at_call 106; exact Calls.quiet_of_same ((norm_any _ _).mono fun _ _ ⟨a, b⟩ => ⟨a, b.symm⟩)))
  go_wp2_with (go_at_call 104; refine (add_any _ _ _).mono ?_; rintro e w2 ⟨rfl, rfl⟩)
  go_ret
  have h1 : (w.setCell ⟨fl, 2, none⟩ (.int .i64 1)).heap[fl]? = some (.cells #[.int .i64 vs, .int .i64 va, .int .i64 1, .bool false, .bool false, .bool false, .int .i64 7, .pointer (some ⟨q, 0, none⟩)] 109 (0, 0)) := at_put H.out.box 2 (.int .i64 1) rfl
  have far : ∀ k, k ≠ fl → ((w.setCell ⟨fl, 2, none⟩ (.int .i64 1)).setCell ⟨fl, 5, none⟩ (.bool false)).heap[k]? = w.heap[k]? := fun k hk => (Below.heap_setCell (w.setCell ⟨fl, 2, none⟩ (.int .i64 1)) ⟨fl, 5, none⟩ (.bool false) k hk).trans (Below.heap_setCell w ⟨fl, 2, none⟩ (.int .i64 1) k hk)
  have k : Only [fl] w ((w.setCell ⟨fl, 2, none⟩ (.int .i64 1)).setCell ⟨fl, 5, none⟩ (.bool false)) := ((Only.refl [fl] w).setCell (p := ⟨fl, 2, none⟩) (Or.inl (by simp)) _).setCell (p := ⟨fl, 5, none⟩) (Or.inl (by simp)) _
  refine ⟨rfl, ⟨at_put h1 5 (.bool false) rfl, (far q hne.symm).trans H.out.que, H.out.row.keep (fun b hb => far b ?_), H.out.ok⟩, ⟨k.os, k.tape, k.output, k.size, k.block⟩⟩
  rintro rfl
  exact H.out.row.ne H.out.box (by decide) hb
theorem qdone_0 (q g o cp : Nat) (w : World) (c1 : w.cell? ⟨q, 1, none⟩ = some (.slice (some ⟨g, o, none⟩) 1 cp)) (c2 : w.cell? ⟨q, 2, none⟩ = some (.int .i64 1)) (f1 : w.frozen? ⟨q, 1, none⟩ = false) (f2 : w.frozen? ⟨q, 2, none⟩ = false) (hc : 1 ≤ cp) :
    Calls Tryz.prog 109 #[.pointer (some ⟨q, 0, none⟩), .int .i64 0] w fun e w' => e = .returned (.bool true) ∧ ∃ n, w' = ((w.setCell ⟨q, 1, none⟩ (.slice (some ⟨g, o, none⟩) 1 1)).setCell ⟨q, 2, none⟩ (.int .i64 1)).drewN n := by
  go_enter Tryz.func109, Tryz.ntmps109
  go_wp2
  go_region
  all_goals (
    go_wp2
    go_ret
    exact ⟨rfl, 1, rfl⟩)
theorem ack_0 (fl q g o cp : Nat) (vr : Int) (s : ByteArray) (w : World) (h : FlowAt w fl q ⟨1, 0, vr, .slice (some ⟨g, o, none⟩) 1 cp, [s], 1⟩) :
    Calls Tryz.prog 95 #[.pointer (some ⟨fl, 0, none⟩), .int .i64 0] w fun e w' => e = .returned (.tuple #[.int .i64 0, .int .i64 0]) ∧ FlowAt w' fl q ⟨1, 0, vr, .slice (some ⟨g, o, none⟩) 1 1, [s], 1⟩ ∧ Only [fl, q] w w' := by
  obtain ⟨d0, d1, d2, d3, d4, d5, d6, d7⟩ := h.cells
  obtain ⟨c0, c1, c2⟩ := h.qells
  have hne := blk_ne h.box h.que (by decide)
  have n5 := hne.symm
  have f1 := at_frozen h.box 1
  have C1 := Lib.hid c1
  have C2 := Lib.hid c2
  have F1 := Lib.hid (at_frozen h.que 1)
  have F2 := Lib.hid (at_frozen h.que 2)
  have hcp : 1 ≤ cp := by
    obtain ⟨A, c, e, hle⟩ := h.row.slice
    injection e with _ _ e
    subst e
    exact hle
  have HC := Lib.hid hcp
  have H := Lib.hid h
  clear h c0 c1 c2 d2 d3 d4 d5 d6 hcp
  dsimp only at d0 d1
  go_enter Tryz.func95, Tryz.ntmps95
  go_wp2
  go_quiet ((go_at_call 107; exact Calls.quiet_of_same ((valid_any _ _ _ _).mono fun _ _ ⟨a, b⟩ => ⟨a, b.symm⟩)))
  go_wp2_with (first | (go_at_call 108; refine (sub_any _ _ _).mono ?_; rintro e w1 ⟨rfl, rfl⟩) | (go_at_call 106; refine (norm_any _ _).mono ?_; rintro e w1 ⟨rfl, rfl⟩) | (go_at_call 109; refine (qdone_0 q g o cp (w.drewN _) C1.out C2.out F1.out F2.out HC.out).mono ?_; rintro e w1 ⟨rfl, m, rfl⟩))
  go_ret2
  have y1 : (w.setCell ⟨q, 1, none⟩ (.slice (some ⟨g, o, none⟩) 1 1)).heap[q]? = some (.cells #[.int .i64 256, .slice (some ⟨g, o, none⟩) 1 1, .int .i64 1] 139 (0, 0)) := at_put H.out.que 1 (.slice (some ⟨g, o, none⟩) 1 1) rfl
  have y2 : ((w.setCell ⟨q, 1, none⟩ (.slice (some ⟨g, o, none⟩) 1 1)).setCell ⟨q, 2, none⟩ (.int .i64 1)).heap[q]? = some (.cells #[.int .i64 256, .slice (some ⟨g, o, none⟩) 1 1, .int .i64 1] 139 (0, 0)) := at_put y1 2 (.int .i64 1) rfl
  have fq : ∀ k, k ≠ q → ((w.setCell ⟨q, 1, none⟩ (.slice (some ⟨g, o, none⟩) 1 1)).setCell ⟨q, 2, none⟩ (.int .i64 1)).heap[k]? = w.heap[k]? := fun k hk => (Below.heap_setCell (w.setCell ⟨q, 1, none⟩ (.slice (some ⟨g, o, none⟩) 1 1)) ⟨q, 2, none⟩ (.int .i64 1) k hk).trans (Below.heap_setCell w ⟨q, 1, none⟩ (.slice (some ⟨g, o, none⟩) 1 1) k hk)
  generalize hW : (w.setCell ⟨q, 1, none⟩ (.slice (some ⟨g, o, none⟩) 1 1)).setCell ⟨q, 2, none⟩ (.int .i64 1) = W at y2 fq
  have hk : Only [fl, q] w W := by
    subst hW
    exact ((Only.refl [fl, q] w).setCell (p := ⟨q, 1, none⟩) (Or.inl (by simp)) _).setCell (p := ⟨q, 2, none⟩) (Or.inl (by simp)) _
  have x1 : (W.setCell ⟨fl, 1, none⟩ (.int .i64 0)).heap[fl]? = _ := at_put ((fq fl hne).trans H.out.box) 1 (.int .i64 0) rfl
  have ff : ∀ k, k ≠ fl → (W.setCell ⟨fl, 1, none⟩ (.int .i64 0)).heap[k]? = W.heap[k]? := fun k hk => Below.heap_setCell W ⟨fl, 1, none⟩ (.int .i64 0) k hk
  have hk2 := hk.setCell (p := ⟨fl, 1, none⟩) (Or.inl (by simp)) (.int .i64 0)
  have hg : (W.setCell ⟨fl, 1, none⟩ (.int .i64 0)).heap[g]? = w.heap[g]? := (ff g (by rintro rfl; exact H.out.row.ne H.out.box (by decide) rfl)).trans (fq g (by rintro rfl; exact H.out.row.ne H.out.que (by decide) rfl))
  have hrow : Tail (W.setCell ⟨fl, 1, none⟩ (.int .i64 0)) 0 9 1 (.slice (some ⟨g, o, none⟩) 1 1) 1 ([.string s]) := by
    rcases H.out.row.2 with ⟨h1, _⟩ | ⟨g', off, cap, cur, h1, h2, h3, h4, h5, h6, h7⟩
    · cases h1
    · injection h1 with h1 _ h1'
      injection h1 with h1
      injection h1 with h1 h1''
      subst h1 h1' h1''
      exact ⟨rfl, .inr ⟨g, o, 1, cur, rfl, h2, hg.trans h3, Nat.le_refl _, by unfold maxLen; omega, by omega, h7⟩⟩
  subst hW
  refine ⟨rfl, ⟨x1, (ff q n5).trans y2, hrow, by simp⟩, ⟨hk2.os, hk2.tape, hk2.output, hk2.size, hk2.block⟩⟩
theorem qdone_1 (q g o : Nat) (w : World) (c1 : w.cell? ⟨q, 1, none⟩ = some (.slice (some ⟨g, o, none⟩) 1 1)) (c2 : w.cell? ⟨q, 2, none⟩ = some (.int .i64 1)) (f1 : w.frozen? ⟨q, 1, none⟩ = false) (f2 : w.frozen? ⟨q, 2, none⟩ = false) :
    Calls Tryz.prog 109 #[.pointer (some ⟨q, 0, none⟩), .int .i64 1] w fun e w' => e = .returned (.bool true) ∧ ∃ n, w' = ((w.setCell ⟨q, 1, none⟩ (.slice (some ⟨g, o, none⟩) 0 0)).setCell ⟨q, 2, none⟩ (.int .i64 0)).drewN n := by
  go_enter Tryz.func109, Tryz.ntmps109
  go_wp2
  go_region
  all_goals (
    go_wp2
    go_ret
    exact ⟨rfl, 1, rfl⟩)
theorem ack_1 (fl q g o : Nat) (vr : Int) (s : ByteArray) (w : World) (h : FlowAt w fl q ⟨1, 0, vr, .slice (some ⟨g, o, none⟩) 1 1, [s], 1⟩) :
    Calls Tryz.prog 95 #[.pointer (some ⟨fl, 0, none⟩), .int .i64 1] w fun e w' => e = .returned (.tuple #[.int .i64 1, .int .i64 0]) ∧ FlowAt w' fl q ⟨1, 1, vr, .slice (some ⟨g, o, none⟩) 0 0, [], 0⟩ ∧ Only [fl, q] w w' := by
  obtain ⟨d0, d1, d2, d3, d4, d5, d6, d7⟩ := h.cells
  obtain ⟨c0, c1, c2⟩ := h.qells
  have hne := blk_ne h.box h.que (by decide)
  have n5 := hne.symm
  have f1 := at_frozen h.box 1
  have C1 := Lib.hid c1
  have C2 := Lib.hid c2
  have F1 := Lib.hid (at_frozen h.que 1)
  have F2 := Lib.hid (at_frozen h.que 2)
  have hcp : 1 ≤ 1 := by
    obtain ⟨A, c, e, hle⟩ := h.row.slice
    injection e with _ _ e
    subst e
    exact hle
  have HC := Lib.hid hcp
  have H := Lib.hid h
  clear h c0 c1 c2 d2 d3 d4 d5 d6 hcp
  dsimp only at d0 d1
  go_enter Tryz.func95, Tryz.ntmps95
  go_wp2
  go_quiet ((go_at_call 107; exact Calls.quiet_of_same ((valid_any _ _ _ _).mono fun _ _ ⟨a, b⟩ => ⟨a, b.symm⟩)))
  go_wp2_with (first | (go_at_call 108; refine (sub_any _ _ _).mono ?_; rintro e w1 ⟨rfl, rfl⟩) | (go_at_call 106; refine (norm_any _ _).mono ?_; rintro e w1 ⟨rfl, rfl⟩) | (go_at_call 109; refine (qdone_1 q g o (w.drewN _) C1.out C2.out F1.out F2.out).mono ?_; rintro e w1 ⟨rfl, m, rfl⟩))
  go_ret2
  have y1 : (w.setCell ⟨q, 1, none⟩ (.slice (some ⟨g, o, none⟩) 0 0)).heap[q]? = some (.cells #[.int .i64 256, .slice (some ⟨g, o, none⟩) 0 0, .int .i64 1] 139 (0, 0)) := at_put H.out.que 1 (.slice (some ⟨g, o, none⟩) 0 0) rfl
  have y2 : ((w.setCell ⟨q, 1, none⟩ (.slice (some ⟨g, o, none⟩) 0 0)).setCell ⟨q, 2, none⟩ (.int .i64 0)).heap[q]? = some (.cells #[.int .i64 256, .slice (some ⟨g, o, none⟩) 0 0, .int .i64 0] 139 (0, 0)) := at_put y1 2 (.int .i64 0) rfl
  have fq : ∀ k, k ≠ q → ((w.setCell ⟨q, 1, none⟩ (.slice (some ⟨g, o, none⟩) 0 0)).setCell ⟨q, 2, none⟩ (.int .i64 0)).heap[k]? = w.heap[k]? := fun k hk => (Below.heap_setCell (w.setCell ⟨q, 1, none⟩ (.slice (some ⟨g, o, none⟩) 0 0)) ⟨q, 2, none⟩ (.int .i64 0) k hk).trans (Below.heap_setCell w ⟨q, 1, none⟩ (.slice (some ⟨g, o, none⟩) 0 0) k hk)
  generalize hW : (w.setCell ⟨q, 1, none⟩ (.slice (some ⟨g, o, none⟩) 0 0)).setCell ⟨q, 2, none⟩ (.int .i64 0) = W at y2 fq
  have hk : Only [fl, q] w W := by
    subst hW
    exact ((Only.refl [fl, q] w).setCell (p := ⟨q, 1, none⟩) (Or.inl (by simp)) _).setCell (p := ⟨q, 2, none⟩) (Or.inl (by simp)) _
  have x1 : (W.setCell ⟨fl, 1, none⟩ (.int .i64 1)).heap[fl]? = _ := at_put ((fq fl hne).trans H.out.box) 1 (.int .i64 1) rfl
  have ff : ∀ k, k ≠ fl → (W.setCell ⟨fl, 1, none⟩ (.int .i64 1)).heap[k]? = W.heap[k]? := fun k hk => Below.heap_setCell W ⟨fl, 1, none⟩ (.int .i64 1) k hk
  have hk2 := hk.setCell (p := ⟨fl, 1, none⟩) (Or.inl (by simp)) (.int .i64 1)
  have hg : (W.setCell ⟨fl, 1, none⟩ (.int .i64 1)).heap[g]? = w.heap[g]? := (ff g (by rintro rfl; exact H.out.row.ne H.out.box (by decide) rfl)).trans (fq g (by rintro rfl; exact H.out.row.ne H.out.que (by decide) rfl))
  have hrow : Tail (W.setCell ⟨fl, 1, none⟩ (.int .i64 1)) 0 9 1 (.slice (some ⟨g, o, none⟩) 0 0) 0 ([]) := by
    rcases H.out.row.2 with ⟨h1, _⟩ | ⟨g', off, cap, cur, h1, h2, h3, h4, h5, h6, h7⟩
    · cases h1
    · injection h1 with h1 _ h1'
      injection h1 with h1
      injection h1 with h1 h1''
      subst h1 h1' h1''
      exact ⟨rfl, .inr ⟨g, o, 0, cur, rfl, h2, hg.trans h3, Nat.le_refl _, by unfold maxLen; omega, by omega, by simp⟩⟩
  subst hW
  refine ⟨rfl, ⟨x1, (ff q n5).trans y2, hrow, by simp⟩, ⟨hk2.os, hk2.tape, hk2.output, hk2.size, hk2.block⟩⟩
end Go.Proofs.YtlfcfmdblmedcaaGreatDoor.Mine
