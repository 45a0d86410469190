/- Rows of structs in memory that may begin behind their block's beginning (a slice that was cut in front): append, reading, cutting. -/
import Derived.Test.YtlfcfmdblmedcaaGreatDoorTMay
import Derived.Maps.AppendAt
import Derived.Deep.RegionLaw
namespace Go.Proofs.YtlfcfmdblmedcaaGreatDoor.Mine
open Go.RowKit Go.Proofs.YtlfcfmdblmedcaaGreatDoorW.PrintWords

section rows
variable {α : Type} (f : α → List Value)
/-- The cells of a row. -/
def rowOf (l : List α) : List Value := l.flatMap f
theorem rowOf_nil : rowOf f [] = [] := rfl
theorem rowOf_cons (x : α) (l : List α) : rowOf f (x :: l) = f x ++ rowOf f l := by simp [rowOf]
theorem rowOf_append (a b : List α) : rowOf f (a ++ b) = rowOf f a ++ rowOf f b := by simp [rowOf]
theorem rowOf_one (x : α) : rowOf f [x] = f x := by simp [rowOf]
theorem rowOf_snoc (a : List α) (x : α) : rowOf f (a ++ [x]) = rowOf f a ++ f x := by rw [rowOf_append, rowOf_one]
theorem rowOf_length {k : Nat} (hk : ∀ x, (f x).length = k) : ∀ l : List α, (rowOf f l).length = l.length * k
  | [] => by simp [rowOf_nil]
  | x :: l => by
    rw [rowOf_cons, List.length_append, rowOf_length hk l, hk, List.length_cons, Nat.add_mul]
    omega
theorem rowOf_get {k : Nat} (hk : ∀ x, (f x).length = k) : ∀ (l : List α) (j i : Nat) (x : α), l[j]? = some x → i < k → (rowOf f l)[j * k + i]? = (f x)[i]?
  | [], j, i, x, h, _ => by simp at h
  | y :: l, 0, i, x, h, hi => by
    simp at h
    subst h
    rw [rowOf_cons, Nat.zero_mul, Nat.zero_add, List.getElem?_append_left (by rw [hk]; exact hi)]
  | y :: l, j + 1, i, x, h, hi => by
    rw [rowOf_cons, List.getElem?_append_right (by rw [hk, Nat.add_mul]; omega), hk, show (j + 1) * k + i - k = j * k + i by rw [Nat.add_mul]; omega]
    exact rowOf_get hk l j i x (by simpa using h) hi
end rows

/-- v is a slice of n elements, whose cells are xs; its block belongs to nobody else (it is B or later). -/
def Tail (w : World) (B : Nat) (e : TypeId) (size : Nat) (v : Value) (n : Nat) (xs : List Value) : Prop :=
  xs.length = n * size ∧ ((v = .slice none 0 0 ∧ n = 0) ∨ ∃ g off cap cur, v = .slice (some ⟨g, off, none⟩) n cap ∧ B ≤ g ∧ w.heap[g]? = some (.cells cur e (0, 0)) ∧ n ≤ cap ∧ cap ≤ maxLen ∧ off + cap * size ≤ cur.size ∧ (cur.toList.drop off).take (n * size) = xs)
section
variable {w w' : World} {B : Nat} {e : TypeId} {size : Nat} {v : Value} {n : Nat} {xs : List Value}
theorem Tail.nil (w : World) (B : Nat) (e : TypeId) (size : Nat) : Tail w B e size (.slice none 0 0) 0 [] := ⟨by simp, .inl ⟨rfl, rfl⟩⟩
theorem Tail.slice (h : Tail w B e size v n xs) : ∃ A c, v = .slice A n c ∧ n ≤ c := by
  rcases h.2 with ⟨rfl, rfl⟩ | ⟨g, off, cap, cur, rfl, _, _, hn, _⟩
  · exact ⟨none, 0, rfl, Nat.le_refl _⟩
  · exact ⟨_, _, rfl, hn⟩
theorem Tail.lt (h : Tail w B e size v n xs) : ∀ k, v.ownBlock = some k → B ≤ k ∧ k < w.heap.size := by
  intro k hk
  rcases h.2 with ⟨rfl, rfl⟩ | ⟨g, off, cap, cur, rfl, h1, h2, _⟩
  · simp [Value.ownBlock] at hk
  · simp [Value.ownBlock] at hk
    subst hk
    exact ⟨h1, lt_of_at h2⟩
theorem Tail.obj (h : Tail w B e size v n xs) : ∀ k, v.ownBlock = some k → ∃ cs, w.heap[k]? = some (.cells cs e (0, 0)) := by
  intro k hk
  rcases h.2 with ⟨rfl, rfl⟩ | ⟨g, off, cap, cur, rfl, h1, h2, _⟩
  · simp [Value.ownBlock] at hk
  · simp [Value.ownBlock] at hk
    subst hk
    exact ⟨_, h2⟩
theorem Tail.keep (h : Tail w B e size v n xs) (hk : ∀ b, v.ownBlock = some b → w'.heap[b]? = w.heap[b]?) : Tail w' B e size v n xs := by
  refine ⟨h.1, h.2.imp id ?_⟩
  rintro ⟨g', off, cap, cur, b1, b2, b3, b4⟩
  exact ⟨g', off, cap, cur, b1, b2, (hk g' (by rw [b1]; rfl)).trans b3, b4⟩
theorem Tail.low (h : Tail w B e size v n xs) {B' : Nat} (hB : B' ≤ B) : Tail w B' e size v n xs := by
  refine ⟨h.1, h.2.imp id ?_⟩
  rintro ⟨g', off, cap, cur, b1, b2, b3⟩
  exact ⟨g', off, cap, cur, b1, Nat.le_trans hB b2, b3⟩
/-- A row stands apart from a block of another kind. -/
theorem Tail.ne (h : Tail w B e size v n xs) {g : Nat} {t : TypeId} {cs : Array Value} {p : Nat × Nat} (hg : w.heap[g]? = some (.cells cs t p)) (ht : e ≠ t) : v.ownBlock ≠ some g := by
  intro he
  obtain ⟨cs', h'⟩ := h.obj g he
  rw [hg] at h'
  injection h' with h'
  injection h' with _ h' _
  exact ht h'.symm
theorem Tail.neMap (h : Tail w B e size v n xs) {g : Nat} {es : Array MapEntry} {c : Nat} (hg : w.heap[g]? = some (.map es c)) : v.ownBlock ≠ some g := by
  intro he
  obtain ⟨cs', h'⟩ := h.obj g he
  rw [hg] at h'
  injection h' with h'
  cases h'
/-- A cell of a row. -/
theorem Tail.at {g off cp : Nat} (h : Tail w B e size (.slice (some ⟨g, off, none⟩) n cp) n xs) (i : Nat) (x : Value) (hi : xs[i]? = some x) : w.cell? ⟨g, off + i, none⟩ = some x := by
  rcases h.2 with ⟨h1, h2⟩ | ⟨g', off', cap, cur, h1, h2, h3, h4, h5, h6, h7⟩
  · cases h1
  · injection h1 with h1 _ _
    injection h1 with h1
    injection h1 with h1 h1'
    subst h1 h1'
    have hl : i < xs.length := (List.getElem?_eq_some_iff.1 hi).1
    rw [← h7] at hi
    rw [List.getElem?_take] at hi
    split at hi
    · rw [List.getElem?_drop] at hi
      rw [at_cell h3]
      simpa using hi
    · cases hi
theorem Tail.one (w : World) (cs : List Value) (e : TypeId) (size : Nat) {B : Nat} (hB : B ≤ w.heap.size) (n : Nat) (hl : cs.length = n * size) (hn : n ≤ maxLen) :
    Tail (w.alloc (.cells cs.toArray e)) B e size (.slice (some ⟨w.heap.size, 0, none⟩) n n) n cs := by
  refine ⟨hl, .inr ⟨w.heap.size, 0, n, cs.toArray, rfl, hB, at_new _ _, Nat.le_refl _, hn, by simp [hl], ?_⟩⟩
  rw [← hl]
  simp
/-- What is left when the first element is cut off. -/
theorem Tail.cut {g off cp : Nat} {ys zs : List Value} (h : Tail w B e size (.slice (some ⟨g, off, none⟩) (n + 1) cp) (n + 1) (ys ++ zs)) (hy : ys.length = size) (v : Value) (hv : v = .slice (if cp = 1 then some ⟨g, off, none⟩ else some ⟨g, off + size, none⟩) n (cp - 1)) : Tail w B e size v n zs := by
  rcases h.2 with ⟨h1, h2⟩ | ⟨g', off', cap, cur, h1, h2, h3, h4, h5, h6, h7⟩
  · cases h1
  · injection h1 with h1 _ hc
    injection h1 with h1
    injection h1 with h1 h1'
    subst h1 h1' hc
    have hz : zs.length = n * size := by
      have := h.1
      rw [List.length_append, hy, Nat.add_mul] at this
      omega
    refine ⟨hz, .inr ?_⟩
    by_cases hc1 : cp = 1
    · rw [if_pos hc1] at hv
      have hn0 : n = 0 := by omega
      subst hn0
      refine ⟨g, off, cp - 1, cur, hv, h2, h3, by omega, by omega, by rw [hc1]; simp; rw [hc1] at h6; omega, ?_⟩
      simp at hz
      simp [hz]
    · rw [if_neg hc1] at hv
      have hcc : cp * size = (cp - 1) * size + size := by
        obtain ⟨k, rfl⟩ : ∃ k, cp = k + 1 := ⟨cp - 1, by omega⟩
        simp [Nat.add_mul]
      refine ⟨g, off + size, cp - 1, cur, hv, h2, h3, by omega, by omega, by omega, ?_⟩
      have e1 : cur.toList.drop (off + size) = (cur.toList.drop off).drop size := by rw [List.drop_drop]
      rw [e1]
      have e2 : (List.take ((n + 1) * size) (List.drop off cur.toList)).drop size = zs := by rw [h7, ← hy, List.drop_left]
      rw [List.drop_take] at e2
      rw [← e2]
      congr 1
      rw [Nat.add_mul]
      omega
end

section
variable {P : Program} (w : World)
theorem run_append_tail (base : Nat) (t ty e : TypeId) (i : TypeInfo) (z : Value) (size bytes : Nat) (ht : P.underlying t = some (.slice e)) (hi : P.info? e = some i) (hz : i.zero = some z)
    (hsize : i.size = size) (hby : i.bytes = bytes) (hzs : z.cells.size = size) (hsz : 0 < size)
    (v : Value) (n : Nat) (xs : List Value) (hown : Tail w base e size v n xs)
    (a : Addr) (m c : Nat) (news : List Value) (hm : 0 < m) (hl : news.length = m * size) (hnews : ∀ j u, news[j]? = some u → w.cell? (a.add j) = some u) (h1 : ∀ u ∈ news, u.oneCell' = true)
    (h63 : n + m ≤ maxLen) (hbytes : (n + m) * bytes ≤ 140737488355328) (hbase : base ≤ w.heap.size) :
    ∃ v' w', (Builtin.append_ #[t, t] ty #[v, .slice (some a) m c]).run P w = .ok v' w' ∧ Tail w' base e size v' (n + m) (xs ++ news) ∧ w.grownBy w' v.ownBlock ∧
      (v'.ownBlock = v.ownBlock ∨ v'.ownBlock = some w.heap.size) := by
  subst hsize
  subst hby
  have hsmall : n + m ≤ 9223372036854775807 := by simp only [maxLen] at h63; omega
  have hlen : (xs ++ news).length = (n + m) * i.size := by rw [List.length_append, hown.1, hl, Nat.add_mul]
  have grown : ∀ (old : Nat), old < n + m → ∀ (row : Option Nat),
      Tail (w.drew.alloc (.cells (xs.toArray ++ news.toArray ++ Builtin.zeroCells z.cells (grownCap w (n + m) old e - (n + m))) e)) base e i.size
        (.slice (some ⟨w.heap.size, 0, none⟩) (n + m) (grownCap w (n + m) old e)) (n + m) (xs ++ news) ∧
      w.grownBy (w.drew.alloc (.cells (xs.toArray ++ news.toArray ++ Builtin.zeroCells z.cells (grownCap w (n + m) old e - (n + m))) e)) row := by
    intro old ho row
    have hge := grownCap_ge w (n + m) old e
    have hcm : grownCap w (n + m) old e ≤ maxLen := grownCap_le_maxLen w (n + m) old e h63
    refine ⟨⟨hlen, .inr ⟨w.heap.size, 0, _, _, rfl, hbase, heap_alloc_new w.drew _, hge, hcm, ?_, ?_⟩⟩, ⟨rfl, rfl, rfl, by simp, fun k hk _ => heap_alloc_old w.drew _ hk⟩⟩
    · simp only [Array.size_append, List.size_toArray, size_zeroCells, hzs, hown.1, hl, ← Nat.add_mul, Nat.zero_add]
      exact Nat.le_of_eq (congrArg (· * i.size) (by omega))
    · simp only [Array.toList_append, List.append_assoc, List.drop_zero]
      rw [← List.append_assoc, ← hlen]
      exact List.take_left
  rcases hown.2 with ⟨rfl, rfl⟩ | ⟨g, off, cap, cur, rfl, hbg, hg, hnc, hcm, hcs, htake⟩
  · have hx : xs = [] := List.eq_nil_of_length_eq_zero (by simpa using hown.1)
    subst hx
    have hr := run_append_nil (P := P) w t ty e i z ht hi hz a m c news hl hnews (by omega) (by omega) (by have hb := hbytes; simp only [Nat.zero_add] at hb; omega)
    have hgr := grown 0 (by omega) (Value.ownBlock (.slice none 0 0))
    simp only [Nat.zero_add, List.nil_append, Array.empty_append] at hgr ⊢
    exact ⟨_, _, hr, hgr.1, hgr.2, Or.inr rfl⟩
  · by_cases hroom : n + m ≤ cap
    · have hfit : n * i.size + news.length ≤ cap * i.size := by rw [hl, ← Nat.add_mul]; exact Nat.mul_le_mul_right _ hroom
      have hf := run_firstCells_some (P := P) w i.size m a m c news hl hnews
      have hst := run_storeCells_at P g (off + n * i.size) e news 0 cur w hg (by omega) h1
      simp only [Nat.add_zero] at hst
      have hadd : (⟨g, off, none⟩ : Addr).add (n * i.size) = ⟨g, off + n * i.size, none⟩ := by unfold Addr.add; split <;> simp_all
      have hr : (Builtin.append_ #[t, t] ty #[.slice (some ⟨g, off, none⟩) n cap, .slice (some a) m c]).run P w =
          .ok (.slice (some ⟨g, off, none⟩) (n + m) cap) (w.setRow g (cur.toList.take (off + n * i.size) ++ news ++ cur.toList.drop (off + n * i.size + news.length)).toArray) := by
        simp [Builtin.append_, run_underlying ht, sizeOf, typeInfo, hi, Builtin.lenOf, hroom, hf, hadd, hst]
      refine ⟨_, _, hr, ⟨hlen, .inr ⟨g, off, cap, _, rfl, hbg, setRow_heap w g cur _ e _ hg, hroom, hcm, ?_, ?_⟩⟩, ⟨rfl, rfl, rfl, by simp, fun k _ hk => setRow_other w g k _ (fun e => hk (by simp [Value.ownBlock, e]))⟩, Or.inl rfl⟩
      · simp only [List.size_toArray, List.length_append, List.length_take, List.length_drop, Array.length_toList]
        omega
      · have hol : off ≤ (cur.toList.take (off + n * i.size)).length := by rw [List.length_take, Array.length_toList]; omega
        have e1 : (cur.toList.take (off + n * i.size)).drop off = xs := by rw [List.drop_take, ← htake]; congr 1; omega
        rw [← hlen, List.append_assoc, List.drop_append_of_le_length hol, e1, ← List.append_assoc]
        exact List.take_left
    · have hxl : xs.length = n * i.size := hown.1
      have holds : ∀ j u, xs[j]? = some u → w.cell? ((⟨g, off, none⟩ : Addr).add j) = some u := by
        intro j u hj
        have hadd : (⟨g, off, none⟩ : Addr).add j = ⟨g, off + j, none⟩ := by unfold Addr.add; split <;> simp_all
        rw [hadd]
        exact Tail.at hown j u hj
      have hr := run_append_grow (P := P) w t ty e i z ht hi hz ⟨g, off, none⟩ n cap xs hown.1 holds a m c news hl hnews (by omega) (by omega) (growslice_fits (by omega) hbytes)
      have hgr := grown cap (by omega) (Value.ownBlock (.slice (some ⟨g, off, none⟩) n cap))
      exact ⟨_, _, hr, hgr.1, hgr.2, Or.inr rfl⟩
/-- append(v, x), x of several cells; behind 'at_builtin'. -/
theorem wpList_append_tail {W : World} {ops : Array Oper} {rest : List Oper} {o : Oper} {a : Act} {Q : Exit → Act → World → Prop} (base : Nat) (hgd : o.guard = none) (s x : Operand) (t e : TypeId) (z : Value) (size bytes : Nat)
    (ho : o.op = .call { callee := .builtin .append, args := #[s, x], argTypes := #[t, t] })
    (ht : P.underlying t = some (.slice e)) (hinfo : (P.info? e).map (fun i => (i.zero, i.size, i.bytes)) = some (some z, size, bytes)) (hz : z.cells.size = size) (hs0 : 0 < size)
    (v : Value) (n : Nat) (xs ys : List Value) (hs : a.eval s = v) (hx : a.eval x = .slice (some ⟨W.heap.size, 0, none⟩) 1 1) (hys : ys.length = size) (h1 : ∀ u ∈ ys, u.oneCell' = true)
    (HO : Tail W base e size v n xs) (hbase : base ≤ W.heap.size) (hl : n + 1 ≤ 10000000000) (hb : bytes ≤ 1000)
    (h : ∀ v1 w1, Tail w1 base e size v1 (n + 1) (xs ++ ys) → W.grownBy w1 v.ownBlock → (v1.ownBlock = v.ownBlock ∨ ∃ b, v1.ownBlock = some b ∧ W.heap.size ≤ b) → wpList P ops Q rest (a.put o.dst v1) w1) :
    wpList P ops Q (o :: rest) a (W.alloc (.cells ys.toArray e)) := by
  obtain ⟨i0, hi, hzz⟩ := Option.map_eq_some_iff.1 hinfo
  simp only [Prod.mk.injEq] at hzz
  obtain ⟨hz0, hz1, hz2⟩ := hzz
  have hbb : (n + 1) * bytes ≤ 140737488355328 := Nat.le_trans (Nat.mul_le_mul hl hb) (by decide)
  obtain ⟨v1, w1, hr, a1, a2, a3⟩ := run_append_tail (P := P) (W.alloc (.cells ys.toArray e)) base t o.type e i0 z size bytes ht hi hz0 hz1 hz2 hz hs0 v n xs (HO.keep (fun b hb => heap_alloc_old W _ (HO.lt b hb).2)) ⟨W.heap.size, 0, none⟩ 1 1 ys (by decide) (by rw [hys]; simp)
    (by simpa using World.news_of_block (cs := ys.toArray) (t := e) (fr := (0, 0)) (heap_alloc_new W (.cells ys.toArray e))) h1 (by simp only [maxLen]; omega) hbb (by simp; omega)
  refine wpList_plain hgd fun K hK => ?_
  unfold Oper.wp execOp
  simp only [ho, resolve, invoke, builtin, Sem.run_bind, Sem.run_pure, Result.andThen_ok, List.map_toArray, List.map_cons, List.map_nil, hs, hx, hr]
  refine hK _ _ (h v1 w1 a1 (World.grownBy.trans (World.grownBy_alloc W _ _) a2) ?_)
  rcases a3 with hat | hat
  · exact .inl hat
  · exact .inr ⟨_, hat, by simp⟩
end
/-- The same as one step of a region that draws its order. -/
theorem step_append_tail {P : Program} {ops : Array Oper} {o : Oper} {a : Act} {W : World} {K : Act → World → Prop} {Q : Exit → Act → World → Prop} {E : Prop} (base : Nat) (hgd : o.guard = none) (s x : Operand) (t e : TypeId) (z : Value) (size bytes : Nat)
    (ho : o.op = .call { callee := .builtin .append, args := #[s, x], argTypes := #[t, t] })
    (ht : P.underlying t = some (.slice e)) (hinfo : (P.info? e).map (fun i => (i.zero, i.size, i.bytes)) = some (some z, size, bytes)) (hz : z.cells.size = size) (hs0 : 0 < size)
    (v : Value) (n : Nat) (xs ys : List Value) (hs : a.eval s = v) (hx : a.eval x = .slice (some ⟨W.heap.size, 0, none⟩) 1 1) (hys : ys.length = size) (h1 : ∀ u ∈ ys, u.oneCell' = true)
    (HO : Tail W base e size v n xs) (hbase : base ≤ W.heap.size) (hl : n + 1 ≤ 10000000000) (hb : bytes ≤ 1000)
    (h : ∀ v1 w1, Tail w1 base e size v1 (n + 1) (xs ++ ys) → W.grownBy w1 v.ownBlock → (v1.ownBlock = v.ownBlock ∨ ∃ b, v1.ownBlock = some b ∧ W.heap.size ≤ b) → K (a.put o.dst v1) w1) :
    if Region.wanted o (yielded ops a.tmps) = true then Oper.wp P o a (W.alloc (.cells ys.toArray e)) K Q else E := by
  have hw : Region.wanted o (yielded ops a.tmps) = true := by simp [Region.wanted, hgd]
  rw [if_pos hw]
  obtain ⟨i0, hi, hzz⟩ := Option.map_eq_some_iff.1 hinfo
  simp only [Prod.mk.injEq] at hzz
  obtain ⟨hz0, hz1, hz2⟩ := hzz
  have hbb : (n + 1) * bytes ≤ 140737488355328 := Nat.le_trans (Nat.mul_le_mul hl hb) (by decide)
  obtain ⟨v1, w1, hr, a1, a2, a3⟩ := run_append_tail (P := P) (W.alloc (.cells ys.toArray e)) base t o.type e i0 z size bytes ht hi hz0 hz1 hz2 hz hs0 v n xs (HO.keep (fun b hb => heap_alloc_old W _ (HO.lt b hb).2)) ⟨W.heap.size, 0, none⟩ 1 1 ys (by decide) (by rw [hys]; simp)
    (by simpa using World.news_of_block (cs := ys.toArray) (t := e) (fr := (0, 0)) (heap_alloc_new W (.cells ys.toArray e))) h1 (by simp only [maxLen]; omega) hbb (by simp; omega)
  unfold Oper.wp execOp
  simp only [ho, resolve, invoke, builtin, Sem.run_bind, Sem.run_pure, Result.andThen_ok, List.map_toArray, List.map_cons, List.map_nil, hs, hx, hr]
  refine h v1 w1 a1 (World.grownBy.trans (World.grownBy_alloc W _ _) a2) ?_
  rcases a3 with hat | hat
  · exact .inl hat
  · exact .inr ⟨_, hat, by simp⟩
end Go.Proofs.YtlfcfmdblmedcaaGreatDoor.Mine
