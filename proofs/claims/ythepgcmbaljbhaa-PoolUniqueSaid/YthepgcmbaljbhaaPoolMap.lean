/- A map from whole numbers to bools that the call itself has made, every element of it true: what is on. And plain lemmas on a pool's bits. -/
import Derived.Test.YthepgcmbaljbhaaPoolActs
import Derived.Maps.OwnSet
import Derived.Maps.OwnOps
namespace Go.Proofs.Ythepgcmbaljbhaa.Mine
open Go.RowKit Go.Maps

/-- Block b is a map that has just those numbers that are on, each true; cnt of them; it has seen no more than n stores. -/
def On (w : World) (b : Nat) (on : Int → Bool) (cnt n : Nat) : Prop :=
  ∃ D : DataW Unit, w.ownsMap Try.prog 3 (plainElem Try.prog 4) b n D ∧ Maps.size D = cnt ∧
    ∀ x : Int, Maps.has D (.int .i64 x) = on x ∧ D.atKey (.int .i64 x) (.lit (.bool false)) = .lit (.bool (on x))

theorem law : Keyed Try.prog 3 := int_keyed Try.underlying3
theorem zeroBool (w : World) : (zeroValue 4).run Try.prog w = .ok (.bool false) w := by kernel_rfl

theorem On.lt {w : World} {b : Nat} {on : Int → Bool} {cnt n : Nat} (h : On w b on cnt n) : b < w.heap.size := by
  obtain ⟨D, h1, _⟩ := h
  exact h1.lt
theorem On.made (w : World) : On (w.alloc (.map #[] 0)) w.heap.size (fun _ => false) 0 0 :=
  ⟨.map [], World.ownsMap_made w _ _ _, rfl, fun _ => ⟨rfl, rfl⟩⟩
theorem On.move {w w' : World} {b : Nat} {on : Int → Bool} {cnt n : Nat} (h : On w b on cnt n) (e : w'.heap[b]? = w.heap[b]?) : On w' b on cnt n := by
  obtain ⟨D, ⟨es, clock, hb, hr⟩, h2⟩ := h
  exact ⟨D, ⟨es, clock, e.trans hb, hr⟩, h2⟩
theorem On.keep {w w' : World} {b : Nat} {on : Int → Bool} {cnt n : Nat} {S : List Nat} (h : On w b on cnt n) (k : Only S w w') (hb : b ∉ S) : On w' b on cnt n :=
  h.move (k.block b h.lt hb)
theorem On.size_le {w : World} {b : Nat} {on : Int → Bool} {cnt n : Nat} (h : On w b on cnt n) : cnt ≤ n := by
  obtain ⟨D, h1, h2, _⟩ := h
  exact h2 ▸ h1.size_le

theorem plainElem_bool_inv {e : TypeId} (he : Try.prog.underlying e = some .bool) {v : Value} {z : DataW Unit × List MemPlace} (h : plainElem Try.prog e v = some z) : ∃ x, v = .bool x ∧ z = (.lit (.bool x), []) := by
  unfold plainElem at h
  rw [he] at h
  cases v <;> simp at h
  subst h
  exact ⟨_, rfl, rfl⟩

/-- on[x]. -/
theorem On.look {w : World} {b : Nat} {on : Int → Bool} {cnt n : Nat} (h : On w b on cnt n) (x : Int) (hx : (Lit.int .i64 x).wf = true) :
    (Instr.lookup 53 (.map (some b)) (.int .i64 x) false).run Try.prog w = .ok (.bool (on x)) w := by
  obtain ⟨D, h1, h2, h3⟩ := h
  obtain ⟨v, ps, hrun, hv⟩ := h1.lookup law Try.underlying53 (zeroBool w) (plainElem_bool Try.underlying4 false) (keyOf_int_mk Try.underlying3 hx)
  obtain ⟨y, rfl, hy⟩ := plainElem_bool_inv Try.underlying4 hv
  rw [(h3 x).2] at hy
  simp only [Prod.mk.injEq, DataW.lit.injEq, Lit.bool.injEq] at hy
  rw [hy.1]
  exact hrun
/-- len(on). -/
theorem On.len {w : World} {b : Nat} {on : Int → Bool} {cnt n : Nat} (h : On w b on cnt n) (ty : TypeId) : (Builtin.len_ #[53] ty #[.map (some b)]).run Try.prog w = .ok (.int .i64 cnt) w := by
  obtain ⟨D, h1, h2, h3⟩ := h
  rw [← h2]
  exact h1.len Try.underlying53 ty

theorem only_of_grown {w w' : World} {b : Nat} (h : w.grownBy w' (some b)) : Only [b] w w' :=
  ⟨h.os, h.tape, h.output, h.size, fun k hk hs => h.block k hk (fun e => hs (by injection e with e; simp [e]))⟩

/-- on[x] = true. -/
theorem On.store {w : World} {b : Nat} {on : Int → Bool} {cnt n : Nat} (h : On w b on cnt n) (x : Int) (hx : (Lit.int .i64 x).wf = true) (hoff : on x = false) (hn : n < maxLen) :
    ∃ w', (Instr.mapUpdate 53 (.map (some b)) (.int .i64 x) (.bool true)).run Try.prog w = .ok () w' ∧ On w' b (fun y => on y || decide (y = x)) (cnt + 1) (n + 1) ∧ Only [b] w w' := by
  obtain ⟨D, h1, h2, h3⟩ := h
  have hkey := keyOf_int_mk (P := Try.prog) Try.underlying3 hx
  obtain ⟨w', hrun, hown, hg⟩ := h1.update law Try.underlying53 hn hkey (plainElem_bool (H := Unit) Try.underlying4 true)
  refine ⟨w', hrun, ⟨_, hown, ?_, fun y => ?_⟩, only_of_grown hg⟩
  · rw [Maps.size_put (h1.tidy law), (h3 x).1, hoff, h2]; rfl
  · by_cases e : y = x
    · subst e
      rw [Maps.has_put_same h1.isMap (show WideAt.IsKeyLit (Lit.int .i64 y) from trivial), Maps.atKey_put_same h1.isMap (show WideAt.IsKeyLit (Lit.int .i64 y) from trivial)]
      simp
    · have hne : (Lit.int .i64 y) ≠ (Lit.int .i64 x) := fun h => e (by injection h)
      rw [Maps.has_put_other hne, Maps.atKey_put_other hne, (h3 y).1, (h3 y).2]
      simp [e]
/-- delete(on, x). -/
theorem On.strike {w : World} {b : Nat} {on : Int → Bool} {cnt n : Nat} (h : On w b on cnt n) (x : Int) (hx : (Lit.int .i64 x).wf = true) (ty : TypeId) :
    ∃ w', (Builtin.delete_ #[53, 3] ty #[.map (some b), .int .i64 x]).run Try.prog w = .ok (.tuple #[]) w' ∧ On w' b (fun y => on y && !decide (y = x)) (cnt - (if on x then 1 else 0)) n ∧ Only [b] w w' := by
  obtain ⟨D, h1, h2, h3⟩ := h
  have hkey := keyOf_int_mk (P := Try.prog) Try.underlying3 hx
  obtain ⟨w', hrun, hown, ht⟩ := h1.drop law Try.underlying53 hkey ty
  refine ⟨w', hrun, ⟨_, hown, ?_, fun y => ?_⟩, only_of_grown ht.grown⟩
  · have := Maps.size_del (h1.tidy law) (k := .int .i64 x)
    rw [(h3 x).1] at this
    omega
  · by_cases e : y = x
    · subst e
      rw [Maps.has_del_same, Maps.atKey_del_same]
      simp
    · have hne : (Lit.int .i64 y) ≠ (Lit.int .i64 x) := fun h => e (by injection h)
      rw [Maps.has_del_other hne, Maps.atKey_del_other hne, (h3 y).1, (h3 y).2]
      simp [e]

/-- The store and the strike at the operation, for a walk. -/
theorem wpList_store_on {w : World} {ops : Array Oper} {rest : List Oper} {o : Oper} {a : Act} {Q : Exit → Act → World → Prop} (hg : o.guard = none) (m x v : Operand) (hop : o.op = Op.mapUpdate 53 m x v)
    {b : Nat} {on : Int → Bool} {cnt n : Nat} (h : On w b on cnt n) (y : Int) (hm : a.eval m = .map (some b)) (hx : a.eval x = .int .i64 y) (hv : a.eval v = .bool true) (hy : (Lit.int .i64 y).wf = true) (hoff : on y = false) (hn : n < maxLen)
    (hK : ∀ w', On w' b (fun z => on z || decide (z = y)) (cnt + 1) (n + 1) → Only [b] w w' → wpList Try.prog ops Q rest (a.put o.dst undef) w') : wpList Try.prog ops Q (o :: rest) a w := by
  refine wpList_plain hg fun K' hK' => ?_
  obtain ⟨w', hrun, r1, r2⟩ := h.store y hy hoff hn
  unfold Oper.wp
  simp [execOp, hop, hm, hx, hv, hrun, Result.andThen]
  exact hK' _ _ (hK w' r1 r2)
/-- One fewer, if it was there. -/
def dropC (c : Nat) (b : Bool) : Nat := c - (if b then 1 else 0)
theorem wpList_strike_on {w : World} {ops : Array Oper} {rest : List Oper} {o : Oper} {a : Act} {Q : Exit → Act → World → Prop} (hg : o.guard = none) (m x : Operand) (hop : o.op = Op.call { callee := Callee.builtin Builtin.delete, args := #[m, x], argTypes := #[53, 3] })
    {b : Nat} {on : Int → Bool} {cnt n : Nat} (h : On w b on cnt n) (y : Int) (hm : a.eval m = .map (some b)) (hx : a.eval x = .int .i64 y) (hy : (Lit.int .i64 y).wf = true)
    (hK : ∀ w', On w' b (fun z => on z && !decide (z = y)) (dropC cnt (on y)) n → Only [b] w w' → wpList Try.prog ops Q rest (a.put o.dst (.tuple #[])) w') : wpList Try.prog ops Q (o :: rest) a w := by
  refine wpList_plain hg fun K' hK' => ?_
  obtain ⟨w', hrun, r1, r2⟩ := h.strike y hy o.type
  unfold Oper.wp
  simp [execOp, hop, resolve, invoke, builtin, hm, hx, hrun, Result.andThen]
  exact hK' _ _ (hK w' r1 r2)

/-! ### A pool's bits, counted -/
theorem hasB_or (B j : Nat) (hj : j < 63) : hasB (orB B j) = fun y => hasB B y || decide (y = 64 + (j : Int)) := by
  funext y
  unfold hasB
  by_cases hr : 64 ≤ y ∧ y ≤ 126
  · rw [decide_eq_true hr, orB_bit]
    by_cases e : y = 64 + (j : Int)
    · rw [decide_eq_true e, decide_eq_true (show j = (y - 64).toNat by omega)]; rfl
    · rw [decide_eq_false e, decide_eq_false (show ¬ j = (y - 64).toNat by omega)]; rfl
  · rw [decide_eq_false hr, decide_eq_false (by omega)]; rfl
theorem hasB_off (B j : Nat) (hj : j < 63) : hasB (offB B j) = fun y => hasB B y && !decide (y = 64 + (j : Int)) := by
  funext y
  unfold hasB
  by_cases hr : 64 ≤ y ∧ y ≤ 126
  · rw [decide_eq_true hr, offB_bit B j _ hj (by omega)]
    by_cases e : y = 64 + (j : Int)
    · rw [decide_eq_true e, decide_eq_true (show j = (y - 64).toNat by omega)]; rfl
    · rw [decide_eq_false e, decide_eq_false (show ¬ j = (y - 64).toNat by omega)]; rfl
  · rw [decide_eq_false hr]; rfl
/-- How many are assigned. -/
def cntB (B : Nat) : Nat := (listB B 63).length
theorem len_or (B j : Nat) (h : B.testBit j = false) : ∀ k, (listB (orB B j) k).length = (listB B k).length + (if j < k then 1 else 0)
  | 0 => rfl
  | k + 1 => by
    have ih := len_or B j h k
    unfold listB
    rw [List.length_append, List.length_append, ih, orB_bit]
    by_cases e : j = k
    · subst e; simp [h]
    · rw [decide_eq_false e]
      by_cases h1 : j < k
      · rw [if_pos h1, if_pos (show j < k + 1 by omega)]; simp; omega
      · rw [if_neg h1, if_neg (show ¬ j < k + 1 by omega)]; simp
theorem cnt_or (B j : Nat) (hj : j < 63) (h : B.testBit j = false) : cntB (orB B j) = cntB B + 1 := by
  unfold cntB; rw [len_or B j h, if_pos hj]
theorem len_off (B j : Nat) (hj : j < 63) (h : B.testBit j = true) : ∀ k, k ≤ 63 → (listB (offB B j) k).length + (if j < k then 1 else 0) = (listB B k).length
  | 0, _ => rfl
  | k + 1, hk => by
    have ih := len_off B j hj h k (by omega)
    unfold listB
    rw [List.length_append, List.length_append, offB_bit B j k hj (by omega)]
    by_cases e : j = k
    · subst e
      rw [if_neg (Nat.lt_irrefl j)] at ih
      simp [h, ← ih]
    · rw [decide_eq_false e]
      by_cases h1 : j < k
      · rw [if_pos h1] at ih
        rw [if_pos (show j < k + 1 by omega)]; simp; omega
      · rw [if_neg h1] at ih
        rw [if_neg (show ¬ j < k + 1 by omega)]; simp; omega
theorem cnt_off (B j : Nat) (hj : j < 63) (h : B.testBit j = true) : cntB (offB B j) = cntB B - 1 := by
  have := len_off B j hj h 63 (Nat.le_refl _)
  rw [if_pos hj] at this
  unfold cntB
  omega
theorem len_all (B : Nat) : ∀ k, (∀ j, j < k → B.testBit j = true) → (listB B k).length = k
  | 0, _ => rfl
  | k + 1, h => by unfold listB; rw [List.length_append, len_all B k (fun j hj => h j (by omega)), h k (by omega)]; rfl
theorem len_some (B i : Nat) (h : B.testBit i = false) : ∀ k, i < k → (listB B k).length < k
  | 0, hk => by omega
  | k + 1, hk => by
    unfold listB
    rw [List.length_append]
    by_cases e : i = k
    · subst e; rw [h]; have := listB_length B i; simp; omega
    · have := len_some B i h k (by omega)
      split <;> simp <;> omega
theorem seek_none (B : Nat) : ∀ (k l : Nat), seek B k l = none → ∀ i, 1 ≤ i → i ≤ k → B.testBit ((l + i) % 63) = true
  | 0, _, _, i, h1, h2 => by omega
  | k + 1, l, h, i, h1, h2 => by
    unfold seek at h
    by_cases hb : B.testBit ((l + 1) % 63) = true
    · rw [if_pos hb] at h
      by_cases e : i = 1
      · subst e; exact hb
      · have := seek_none B k _ h (i - 1) (by omega) (by omega)
        rwa [show ((l + 1) % 63 + (i - 1)) % 63 = (l + i) % 63 by omega] at this
    · rw [if_neg hb] at h; cases h
/-- Assign answers full just when all are assigned; else one that was free. -/
theorem asg_full (B last : Nat) (h : seek B 63 last = none) : cntB B = 63 ∧ asgE B last = 10 ∧ asgB B last = B := by
  refine ⟨len_all B 63 (fun j hj => ?_), by unfold asgE; rw [h], by unfold asgB; rw [h]⟩
  have := seek_none B 63 last h ((j + 63 * 63 - last % 63 - 1) % 63 + 1) (by omega) (by omega)
  rwa [show (last + ((j + 63 * 63 - last % 63 - 1) % 63 + 1)) % 63 = j by omega] at this
theorem asg_some (B last j : Nat) (h : seek B 63 last = some j) : j < 63 ∧ B.testBit j = false ∧ cntB B < 63 ∧ asgE B last = 0 ∧ asgT B last = 64 + (j : Int) ∧ asgB B last = orB B j := by
  obtain ⟨h1, h2⟩ := seek_lt B 63 last j h
  exact ⟨h1, h2, len_some B j h2 63 h1, by unfold asgE; rw [h], by unfold asgT; rw [h], by unfold asgB; rw [h]⟩
end Go.Proofs.Ythepgcmbaljbhaa.Mine
