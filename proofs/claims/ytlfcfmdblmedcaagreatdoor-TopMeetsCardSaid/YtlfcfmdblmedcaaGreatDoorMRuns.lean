/- An entity's timers in memory: a map of bools by number. -/
import Derived.Test.YtlfcfmdblmedcaaGreatDoorTMay
import Derived.Maps.OwnSet
import Derived.Maps.OwnOps
namespace Go.Proofs.YtlfcfmdblmedcaaGreatDoor.Mine
open Go.RowKit Go.Maps Go.Proofs.YtlfcfmdblmedcaaGreatDoorW.PrintWords

def rbElem (v : Value) : Option (DataW Unit × List MemPlace) :=
  match v with
  | .bool b => some (.lit (.bool b), [])
  | _ => none
theorem rbElem_mk (c : Bool) : rbElem (.bool c) = some (.lit (.bool c), []) := rfl
theorem rbElem_inv {v : Value} {c : Bool} {ps : List MemPlace} (h : rbElem v = some (.lit (.bool c), ps)) : v = .bool c := by
  unfold rbElem at h
  split at h
  · simp only [Option.some.injEq, Prod.mk.injEq, DataW.lit.injEq, Lit.bool.injEq] at h
    rw [h.1]
  · cases h
theorem lawInt : Keyed Tryz.prog 3 := int_keyed Tryz.underlying3
theorem zeroRun (w : World) : (zeroValue 4).run Tryz.prog w = .ok (.bool false) w := by kernel_rfl

/-- Block b is a map of timers, as f tells them; it has seen no more than n stores. -/
def Runs (w : World) (b : Nat) (f : Int → Bool) (n : Nat) : Prop :=
  ∃ D : DataW Unit, w.ownsMap Tryz.prog 3 rbElem b n D ∧ ∀ x : Int, D.atKey (.int .i64 x) (.lit (.bool false)) = .lit (.bool (f x))
def runPut (f : Int → Bool) (x : Int) (c : Bool) : Int → Bool := fun y => if y = x then c else f y
theorem runPut_at (f : Int → Bool) (x : Int) (c : Bool) : runPut f x c x = c := by simp [runPut]
theorem runPut_other {f : Int → Bool} {x y : Int} {c : Bool} (h : y ≠ x) : runPut f x c y = f y := by simp [runPut, h]
section
variable {w w' : World} {b n : Nat} {f : Int → Bool}
theorem Runs.lt (h : Runs w b f n) : b < w.heap.size := by
  obtain ⟨D, h1, _⟩ := h
  exact h1.lt
theorem Runs.made (w : World) : Runs (w.alloc (.map #[] 0)) w.heap.size (fun _ => false) 0 :=
  ⟨.map [], World.ownsMap_made w _ _ _, fun _ => rfl⟩
theorem Runs.move (h : Runs w b f n) (e : w'.heap[b]? = w.heap[b]?) : Runs w' b f n := by
  obtain ⟨D, ⟨es, clock, hb, hr⟩, h2⟩ := h
  exact ⟨D, ⟨es, clock, e.trans hb, hr⟩, h2⟩
theorem Runs.keep {S : List Nat} (h : Runs w b f n) (k : Only S w w') (hb : b ∉ S) : Runs w' b f n := h.move (k.block b h.lt hb)
theorem Runs.more {m : Nat} (h : Runs w b f n) (hm : n ≤ m) : Runs w b f m := by
  obtain ⟨D, ⟨es, clock, hb, F, hs, hD⟩, h2⟩ := h
  exact ⟨D, ⟨es, clock, hb, F, Nat.le_trans hs hm, hD⟩, h2⟩
/-- e.runs[x]. -/
theorem Runs.look (h : Runs w b f n) (x : Int) (hx : (Lit.int .i64 x).wf = true) :
    (Instr.lookup 69 (.map (some b)) (.int .i64 x) false).run Tryz.prog w = .ok (.bool (f x)) w := by
  obtain ⟨D, h1, h2⟩ := h
  obtain ⟨v, ps, hrun, hv⟩ := h1.lookup lawInt Tryz.underlying69 (zeroRun w) (rbElem_mk false) (keyOf_int_mk Tryz.underlying3 hx)
  rw [h2 x] at hv
  rw [rbElem_inv hv] at hrun
  exact hrun
theorem only_of_grownRun {w w' : World} {b : Nat} (h : w.grownBy w' (some b)) : Only [b] w w' :=
  ⟨h.os, h.tape, h.output, h.size, fun k hk hs => h.block k hk (fun e => hs (by injection e with e; simp [e]))⟩
/-- e.runs[x] = c. -/
theorem Runs.store (h : Runs w b f n) (x : Int) (hx : (Lit.int .i64 x).wf = true) (c : Bool) (hn : n < maxLen) :
    ∃ w', (Instr.mapUpdate 69 (.map (some b)) (.int .i64 x) (.bool c)).run Tryz.prog w = .ok () w' ∧ Runs w' b (runPut f x c) (n + 1) ∧ Only [b] w w' := by
  obtain ⟨D, h1, h2⟩ := h
  have hkey := keyOf_int_mk (P := Tryz.prog) Tryz.underlying3 hx
  obtain ⟨w', hrun, hown, hg⟩ := h1.update lawInt Tryz.underlying69 hn hkey (rbElem_mk c)
  refine ⟨w', hrun, ⟨_, hown, fun y => ?_⟩, only_of_grownRun hg⟩
  unfold runPut
  by_cases e : y = x
  · subst e
    rw [Maps.atKey_put_same h1.isMap (show WideAt.IsKeyLit (Lit.int .i64 y) from trivial)]
    simp
  · have hne : (Lit.int .i64 y) ≠ (Lit.int .i64 x) := fun h => e (by injection h)
    rw [Maps.atKey_put_other hne, h2 y]
    simp [e]
end
/-- The store at the operation, for a walk. -/
theorem wpList_store_run {w : World} {ops : Array Oper} {rest : List Oper} {o : Oper} {a : Act} {Q : Exit → Act → World → Prop} (hg : o.guard = none) (m x v : Operand) (hop : o.op = Op.mapUpdate 69 m x v)
    {b : Nat} {f : Int → Bool} {n : Nat} (h : Runs w b f n) (y : Int) (c : Bool) (hm : a.eval m = .map (some b)) (hx : a.eval x = .int .i64 y) (hv : a.eval v = .bool c) (hy : (Lit.int .i64 y).wf = true) (hn : n < maxLen)
    (hK : ∀ w', Runs w' b (runPut f y c) (n + 1) → Only [b] w w' → wpList Tryz.prog ops Q rest (a.put o.dst undef) w') : wpList Tryz.prog ops Q (o :: rest) a w := by
  refine wpList_plain hg fun K' hK' => ?_
  obtain ⟨w', hrun, r1, r2⟩ := h.store y hy c hn
  unfold Oper.wp
  simp [execOp, hop, hm, hx, hv, hrun, Result.andThen]
  exact hK' _ _ (hK w' r1 r2)
end Go.Proofs.YtlfcfmdblmedcaaGreatDoor.Mine
