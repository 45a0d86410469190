/- The network's end of TEI management in memory: its checks' map, its pool, its effects; the first contracts. -/
import Derived.Test.YtlfcfmdblmedcaaDoorSUserD
import Derived.Test.YtlfcfmdblmedcaaDoorSPoolList
import Derived.Test.YtlfcfmdblmedcaaDoorTLookW
import Derived.Maps.OwnSet
import Derived.Maps.OwnOps
import Derived.Maps.AppendAt
namespace Go.Proofs.YtlfcfmdblmedcaaDoor.Mine
open Go.RowKit Go.Maps Go.Proofs.YtlfcfmdblmedcaaDoorW.PrintWords

/-- A check: its TEI, how often it asked, how many answered. -/
abbrev CK := Int × Int × Int
def ckD (c : CK) : DataW Unit := .agg [.lit (.int .i64 c.1), .lit (.int .i64 c.2.1), .lit (.int .i64 c.2.2)]
def ckV (c : CK) : Value := .agg #[.int .i64 c.1, .int .i64 c.2.1, .int .i64 c.2.2]
def ckElem (v : Value) : Option (DataW Unit × List MemPlace) :=
  match v with
  | .agg xs => match xs.toList with
    | [.int .i64 a, .int .i64 b, .int .i64 c] => some (ckD (a, b, c), [])
    | _ => none
  | _ => none
theorem ckElem_mk (c : CK) : ckElem (ckV c) = some (ckD c, []) := rfl
theorem ckElem_inv {v : Value} {c : CK} {ps : List MemPlace} (h : ckElem v = some (ckD c, ps)) : v = ckV c := by
  unfold ckElem at h
  split at h
  · rename_i xs
    split at h
    · rename_i a b d he
      simp only [ckD, Option.some.injEq, Prod.mk.injEq, DataW.agg.injEq, List.cons.injEq, DataW.lit.injEq, Lit.int.injEq, true_and, and_true] at h
      obtain ⟨⟨h1, h2, h3⟩, -⟩ := h
      unfold ckV
      congr 1
      rw [← h1, ← h2, ← h3]
      exact Array.toList_inj.1 he
    · cases h
  · cases h
theorem law : Keyed Tryd.prog 3 := int_keyed Tryd.underlying3
theorem zeroCk (w : World) : (zeroValue 125).run Tryd.prog w = .ok (ckV (0, 0, 0)) w := by kernel_rfl

/-- Block b is a map of checks, as f tells them; it has seen no more than n stores. -/
def Chk (w : World) (b : Nat) (f : Int → Option CK) (n : Nat) : Prop :=
  ∃ D : DataW Unit, w.ownsMap Tryd.prog 3 ckElem b n D ∧ ∀ x : Int, Maps.has D (.int .i64 x) = (f x).isSome ∧ D.atKey (.int .i64 x) (ckD (0, 0, 0)) = ckD ((f x).getD (0, 0, 0))
section
variable {w w' : World} {b n : Nat} {f : Int → Option CK}
theorem Chk.lt (h : Chk w b f n) : b < w.heap.size := by
  obtain ⟨D, h1, _⟩ := h
  exact h1.lt
theorem Chk.made (w : World) : Chk (w.alloc (.map #[] 0)) w.heap.size (fun _ => none) 0 :=
  ⟨.map [], World.ownsMap_made w _ _ _, fun _ => ⟨rfl, rfl⟩⟩
theorem Chk.move (h : Chk w b f n) (e : w'.heap[b]? = w.heap[b]?) : Chk w' b f n := by
  obtain ⟨D, ⟨es, clock, hb, hr⟩, h2⟩ := h
  exact ⟨D, ⟨es, clock, e.trans hb, hr⟩, h2⟩
theorem Chk.keep {S : List Nat} (h : Chk w b f n) (k : Only S w w') (hb : b ∉ S) : Chk w' b f n := h.move (k.block b h.lt hb)
theorem Chk.obj (h : Chk w b f n) : ∃ es clock, w.heap[b]? = some (.map es clock) := by
  obtain ⟨D, ⟨es, clock, hb, hr⟩, h2⟩ := h
  exact ⟨es, clock, hb⟩
/-- c, ok := checks[x]. -/
theorem Chk.look (h : Chk w b f n) (x : Int) (hx : (Lit.int .i64 x).wf = true) :
    (Instr.lookup 108 (.map (some b)) (.int .i64 x) true).run Tryd.prog w = .ok (.tuple #[ckV ((f x).getD (0, 0, 0)), .bool (f x).isSome]) w := by
  obtain ⟨D, h1, h2⟩ := h
  obtain ⟨v, ps, hrun, hv⟩ := h1.look_ok law Tryd.underlying108 (zeroCk w) (ckElem_mk (0, 0, 0)) (keyOf_int_mk Tryd.underlying3 hx)
  rw [(h2 x).2] at hv
  rw [ckElem_inv hv, (h2 x).1] at hrun
  exact hrun
def chkPut (f : Int → Option CK) (x : Int) (c : Option CK) : Int → Option CK := fun y => if y = x then c else f y
theorem only_of_grown' {w w' : World} {b : Nat} (h : w.grownBy w' (some b)) : Only [b] w w' :=
  ⟨h.os, h.tape, h.output, h.size, fun k hk hs => h.block k hk (fun e => hs (by injection e with e; simp [e]))⟩
/-- checks[x] = c. -/
theorem Chk.store (h : Chk w b f n) (x : Int) (hx : (Lit.int .i64 x).wf = true) (c : CK) (hn : n < maxLen) :
    ∃ w', (Instr.mapUpdate 108 (.map (some b)) (.int .i64 x) (ckV c)).run Tryd.prog w = .ok () w' ∧ Chk w' b (chkPut f x (some c)) (n + 1) ∧ Only [b] w w' := by
  obtain ⟨D, h1, h2⟩ := h
  have hkey := keyOf_int_mk (P := Tryd.prog) Tryd.underlying3 hx
  obtain ⟨w', hrun, hown, hg⟩ := h1.update law Tryd.underlying108 hn hkey (ckElem_mk c)
  refine ⟨w', hrun, ⟨_, hown, fun y => ?_⟩, only_of_grown' hg⟩
  unfold chkPut
  by_cases e : y = x
  · subst e
    rw [Maps.has_put_same h1.isMap (show WideAt.IsKeyLit (Lit.int .i64 y) from trivial), Maps.atKey_put_same h1.isMap (show WideAt.IsKeyLit (Lit.int .i64 y) from trivial)]
    simp
  · have hne : (Lit.int .i64 y) ≠ (Lit.int .i64 x) := fun h => e (by injection h)
    rw [Maps.has_put_other hne, Maps.atKey_put_other hne, (h2 y).1, (h2 y).2]
    simp [e]
/-- delete(checks, x). -/
theorem Chk.strike (h : Chk w b f n) (x : Int) (hx : (Lit.int .i64 x).wf = true) (ty : TypeId) :
    ∃ w', (Builtin.delete_ #[108, 3] ty #[.map (some b), .int .i64 x]).run Tryd.prog w = .ok (.tuple #[]) w' ∧ Chk w' b (chkPut f x none) n ∧ Only [b] w w' := by
  obtain ⟨D, h1, h2⟩ := h
  have hkey := keyOf_int_mk (P := Tryd.prog) Tryd.underlying3 hx
  obtain ⟨w', hrun, hown, ht⟩ := h1.drop law Tryd.underlying108 hkey ty
  refine ⟨w', hrun, ⟨_, hown, fun y => ?_⟩, only_of_grown' ht.grown⟩
  unfold chkPut
  by_cases e : y = x
  · subst e
    rw [Maps.has_del_same, Maps.atKey_del_same]
    simp
  · have hne : (Lit.int .i64 y) ≠ (Lit.int .i64 x) := fun h => e (by injection h)
    rw [Maps.has_del_other hne, Maps.atKey_del_other hne, (h2 y).1, (h2 y).2]
    simp [e]
end
/-- The store and the strike at the operation, for a walk. -/
theorem wpList_store_chk {w : World} {ops : Array Oper} {rest : List Oper} {o : Oper} {a : Act} {Q : Exit → Act → World → Prop} (hg : o.guard = none) (m x v : Operand) (hop : o.op = Op.mapUpdate 108 m x v)
    {b : Nat} {f : Int → Option CK} {n : Nat} (h : Chk w b f n) (y : Int) (c : CK) (hm : a.eval m = .map (some b)) (hx : a.eval x = .int .i64 y) (hv : a.eval v = ckV c) (hy : (Lit.int .i64 y).wf = true) (hn : n < maxLen)
    (hK : ∀ w', Chk w' b (chkPut f y (some c)) (n + 1) → Only [b] w w' → wpList Tryd.prog ops Q rest (a.put o.dst undef) w') : wpList Tryd.prog ops Q (o :: rest) a w := by
  refine wpList_plain hg fun K' hK' => ?_
  obtain ⟨w', hrun, r1, r2⟩ := h.store y hy c hn
  unfold Oper.wp
  simp [execOp, hop, hm, hx, hv, hrun, Result.andThen]
  exact hK' _ _ (hK w' r1 r2)
theorem wpList_strike_chk {w : World} {ops : Array Oper} {rest : List Oper} {o : Oper} {a : Act} {Q : Exit → Act → World → Prop} (hg : o.guard = none) (m x : Operand) (hop : o.op = Op.call { callee := Callee.builtin Builtin.delete, args := #[m, x], argTypes := #[108, 3] })
    {b : Nat} {f : Int → Option CK} {n : Nat} (h : Chk w b f n) (y : Int) (hm : a.eval m = .map (some b)) (hx : a.eval x = .int .i64 y) (hy : (Lit.int .i64 y).wf = true)
    (hK : ∀ w', Chk w' b (chkPut f y none) n → Only [b] w w' → wpList Tryd.prog ops Q rest (a.put o.dst (.tuple #[])) w') : wpList Tryd.prog ops Q (o :: rest) a w := by
  refine wpList_plain hg fun K' hK' => ?_
  obtain ⟨w', hrun, r1, r2⟩ := h.strike y hy o.type
  unfold Oper.wp
  simp [execOp, hop, resolve, invoke, builtin, hm, hx, hrun, Result.andThen]
  exact hK' _ _ (hK w' r1 r2)

/-- A source in memory: its pool's bits, who was told last, its checks. -/
structure SrcAt (w : World) (g gp gm B last : Nat) (f : Int → Option CK) (n : Nat) : Prop where
  box : w.heap[g]? = some (.cells #[.pointer (some ⟨gp, 0, none⟩), .map (some gm)] 110 (0, 0))
  pool : PoolAt w gp B last
  chk : Chk w gm f n
section
variable {w w' : World} {g gp gm B last n : Nat} {f : Int → Option CK}
theorem SrcAt.ne (h : SrcAt w g gp gm B last f n) : g ≠ gp ∧ g ≠ gm ∧ gp ≠ gm := by
  obtain ⟨es, clock, hm⟩ := h.chk.obj
  have h1 := h.box
  have h2 := h.pool.1
  refine ⟨?_, ?_, ?_⟩
  · rintro rfl
    rw [h1] at h2
    injection h2 with h2
    injection h2 with _ h2 _
    exact absurd h2 (by decide)
  · rintro rfl
    rw [h1] at hm
    injection hm with hm
    cases hm
  · rintro rfl
    rw [h2] at hm
    injection hm with hm
    cases hm
theorem SrcAt.lt (h : SrcAt w g gp gm B last f n) : g < w.heap.size ∧ gp < w.heap.size ∧ gm < w.heap.size := ⟨lt_of_at h.box, lt_of_at h.pool.1, h.chk.lt⟩
theorem SrcAt.keep {S : List Nat} (h : SrcAt w g gp gm B last f n) (k : Only S w w') (h1 : g ∉ S) (h2 : gp ∉ S) (h3 : gm ∉ S) : SrcAt w' g gp gm B last f n :=
  ⟨k.at h.box h1, h.pool.keep k h2, h.chk.keep k h3⟩
theorem SrcAt.below (h : SrcAt w g gp gm B last f n) (b : Below w.heap.size w w') : SrcAt w' g gp gm B last f n :=
  h.keep (Only.of_below b []) (by simp) (by simp) (by simp)
theorem SrcAt.cells (h : SrcAt w g gp gm B last f n) : w.cell? ⟨g, 0, none⟩ = some (.pointer (some ⟨gp, 0, none⟩)) ∧ w.cell? ⟨g, 1, none⟩ = some (.map (some gm)) := by
  have c0 := at_cell h.box 0
  have c1 := at_cell h.box 1
  simp at c0 c1
  exact ⟨c0, c1⟩
end
set_option maxHeartbeats 1000000 in
theorem srcNew_any (w : World) :
    Calls Tryd.prog 15 #[] w fun e w' => ∃ g gp gm, e = .returned (.pointer (some ⟨g, 0, none⟩)) ∧ SrcAt w' g gp gm 0 62 (fun _ => none) 0 ∧ w.heap.size ≤ g ∧ w.heap.size ≤ gp ∧ w.heap.size ≤ gm ∧ Below w.heap.size w w' := by
  have hmm := @run_makeMap Tryd.prog
  go_enter Tryd.func15, Tryd.ntmps15
  go_wp2_with fail
  refine (poolNew_any _).mono ?_
  rintro e w1 ⟨gp, rfl, hg, hp, b1⟩
  have HP := Lib.hid hp
  have HB := Lib.hid b1
  clear hp b1
  go_wp2
  go_ret
  have hs := HB.out.size
  refine ⟨_, gp, w1.heap.size, rfl, ⟨?_, ?_, ?_⟩, ?_, hg, hs, ?_⟩
  · have := at_new (w1.alloc (.map #[] 0)) (.cells #[.pointer (some ⟨gp, 0, none⟩), .map (some w1.heap.size)] 110)
    simpa using this
  · exact (HP.out.keep ((Only.refl [] w1).alloc _) (by simp)).keep ((Only.refl [] _).alloc _) (by simp)
  · exact (Chk.made w1).keep ((Only.refl [] _).alloc _) (by simp)
  · omega
  · exact (HB.out.alloc hs _).alloc (by simp; omega) _

/-- Effects of a source, in a row of the call's own. -/
def SEfs (B : Nat) (w : World) (v : Value) (l : List Ef) : Prop := w.ownsRow B 105 5 v l.length (efCells l)
theorem efc_length : ∀ l : List Ef, (efCells l).length = l.length * 5
  | [] => rfl
  | x :: l => by
    show (x.vals ++ efCells l).length = _
    rw [List.length_append, efc_length l]
    show 5 + _ = _
    simp; omega
theorem efc_append (a b : List Ef) : efCells (a ++ b) = efCells a ++ efCells b := by
  induction a with
  | nil => rfl
  | cons x a ih => show x.vals ++ efCells (a ++ b) = (x.vals ++ efCells a) ++ efCells b; rw [ih, List.append_assoc]
theorem efc_get : ∀ (l : List Ef) (j i : Nat) (x : Ef), l[j]? = some x → i < 5 → (efCells l)[j * 5 + i]? = x.vals[i]?
  | [], j, i, x, h, _ => by simp at h
  | y :: l, 0, i, x, h, hi => by
    simp at h
    subst h
    have e : efCells (y :: l) = y.vals ++ efCells l := rfl
    rw [e, Nat.zero_mul, Nat.zero_add, List.getElem?_append_left (by simpa [Ef.vals] using hi)]
  | y :: l, j + 1, i, x, h, hi => by
    have e : efCells (y :: l) = y.vals ++ efCells l := rfl
    have hx : y.vals.length = 5 := rfl
    rw [e, List.getElem?_append_right (by rw [hx]; omega), hx, show (j + 1) * 5 + i - 5 = j * 5 + i by omega]
    exact efc_get l j i x (by simpa using h) hi
theorem efc_one : ∀ (l : List Ef), ∀ u ∈ efCells l, u.oneCell' = true
  | [], u, h => by simp [efCells] at h
  | x :: l, u, h => by
    have e : efCells (x :: l) = x.vals ++ efCells l := rfl
    rw [e] at h
    rcases List.mem_append.1 h with h | h
    · simp [Ef.vals] at h
      rcases h with rfl | rfl | rfl | rfl | rfl <;> rfl
    · exact efc_one l u h
/-- A row that was built of its elements. -/
theorem own_lit {w : World} {B : Nat} {e : TypeId} {size n : Nat} {cs : List Value} {b : Nat} (hb : b = w.heap.size) (hl : cs.length = n * size) (hB : B ≤ w.heap.size) (hn : n ≤ maxLen) :
    (w.alloc (.cells cs.toArray e)).ownsRow B e size (.slice (some ⟨b, 0, none⟩) n n) n cs := by
  refine ⟨hl, Or.inr ⟨b, n, cs.toArray, rfl, by omega, by rw [hb]; exact at_new _ _, Nat.le_refl _, hn, by simpa using hl, ?_⟩⟩
  rw [← hl]
  simp
theorem infoSE : (Tryd.prog.info? 105).map (fun i => (i.zero, i.size, i.bytes)) = some (some (.agg #[.int .i64 0, .int .i64 0, .int .i64 0, .int .i64 0, .int .i64 0]), 5, 40) := by kernel_rfl

theorem ssaid_any (t ri ai : Int) (w : World) :
    Calls Tryd.prog 49 #[.int .i64 t, .int .i64 ri, .int .i64 ai] w fun e w' => e = .returned (.agg #[.int .i64 0, .int .i64 t, .int .i64 ri, .int .i64 ai, .int .i64 0]) ∧ Below w.heap.size w w' := by
  go_enter Tryd.func49, Tryd.ntmps49
  go_wp2
  refine bodyPost_ret (results_cell_row rfl _ _ w.heap.size 105 #[.int .i64 0, .int .i64 t, .int .i64 ri, .int .i64 ai, .int .i64 0] (0, 0) _ rfl (at_new _ _) Tryd.underlying105 rfl (by kernel_rfl)) rfl ?_
  exact ⟨rfl, (Below.refl _ _).alloc (Nat.le_refl _) _⟩
end Go.Proofs.YtlfcfmdblmedcaaDoor.Mine
