/- Both ends of a link, and what is on its way to each, in memory. -/
import Derived.Test.YtlfcfmdblmedcaaGreatDoorMEnK
namespace Go.Proofs.YtlfcfmdblmedcaaGreatDoor.Mine
open Go.RowKit Go.Maps Go.Proofs.YtlfcfmdblmedcaaGreatDoorW.PrintWords

/-- Where a side lies: its entity, timers, flow, queue; the slices of frames, events, payloads. -/
structure Ad where
  e : Nat
  rb : Nat
  fl : Nat
  q : Nat
  tov : Value
  tkv : Value
  tdv : Value
/-- What a side has: its entity, the frames on their way to it, how many payloads it was told, how often it was told of the link. -/
structure SG where
  E : EN
  F : List FrV
  nd : Nat
  u : Nat
def Ad.fp (A : Ad) (lv : Value) : List Nat := [A.e, A.rb, A.fl, A.q] ++ A.tov.ownBlock.toList ++ A.tkv.ownBlock.toList ++ A.tdv.ownBlock.toList ++ lv.ownBlock.toList
theorem Ad.mem_fp {A : Ad} {lv : Value} {x : Nat} : x ∈ A.fp lv ↔ x = A.e ∨ x = A.rb ∨ x = A.fl ∨ x = A.q ∨ A.tov.ownBlock = some x ∨ A.tkv.ownBlock = some x ∨ A.tdv.ownBlock = some x ∨ lv.ownBlock = some x := by
  simp [Ad.fp, Option.mem_toList]

structure SideAt (Z : Nat) (w : World) (A : Ad) (s : SG) (c : Nat) : Prop where
  en : EnG w A.e A.rb A.fl A.q s.E c
  tr : Tail w Z 66 8 A.tov s.F.length (rowOf FrV.vals s.F)
  tk : ∃ n xs, n ≤ c ∧ Tail w Z 60 2 A.tkv n xs
  td : ∃ xs, Tail w Z 9 1 A.tdv s.nd xs
  few : s.F.length ≤ c ∧ s.nd ≤ c ∧ s.u ≤ c
  high : Z ≤ A.e ∧ Z ≤ A.rb ∧ Z ≤ A.fl ∧ Z ≤ A.q ∧ ∀ b, s.E.φ.lv.ownBlock = some b → Z ≤ b
  apart : ∀ b, A.tdv.ownBlock = some b → s.E.φ.lv.ownBlock ≠ some b
/-- A side's blocks hold a map, or cells of a side's kinds. -/
def SideKind (o : Obj) : Prop := (∃ es n, o = .map es n) ∨ ∃ cs t p, o = .cells cs t p ∧ (t = 72 ∨ t = 109 ∨ t = 139 ∨ t = 66 ∨ t = 60 ∨ t = 9)
section
variable {Z : Nat} {w w' : World} {A : Ad} {s : SG} {c : Nat}
theorem SideAt.kind (h : SideAt Z w A s c) {x : Nat} (hx : x ∈ A.fp s.E.φ.lv) : ∃ o, w.heap[x]? = some o ∧ SideKind o := by
  obtain ⟨n, hn, hr⟩ := EnI.runs h.en
  obtain ⟨es, clock, hm⟩ := hr.obj
  obtain ⟨_, _, _, tk⟩ := h.tk
  obtain ⟨_, td⟩ := h.td
  rcases Ad.mem_fp.1 hx with rfl | rfl | rfl | rfl | hx | hx | hx | hx
  · exact ⟨_, EnI.box h.en, Or.inr ⟨_, _, _, rfl, by simp⟩⟩
  · exact ⟨_, hm, Or.inl ⟨_, _, rfl⟩⟩
  · exact ⟨_, (EnI.flow h.en).box, Or.inr ⟨_, _, _, rfl, by simp⟩⟩
  · exact ⟨_, (EnI.flow h.en).que, Or.inr ⟨_, _, _, rfl, by simp⟩⟩
  · obtain ⟨cs, hcs⟩ := h.tr.obj x hx
    exact ⟨_, hcs, Or.inr ⟨_, _, _, rfl, by simp⟩⟩
  · obtain ⟨cs, hcs⟩ := tk.obj x hx
    exact ⟨_, hcs, Or.inr ⟨_, _, _, rfl, by simp⟩⟩
  · obtain ⟨cs, hcs⟩ := td.obj x hx
    exact ⟨_, hcs, Or.inr ⟨_, _, _, rfl, by simp⟩⟩
  · obtain ⟨cs, hcs⟩ := (EnI.flow h.en).row.obj x hx
    exact ⟨_, hcs, Or.inr ⟨_, _, _, rfl, by simp⟩⟩
theorem SideAt.lt (h : SideAt Z w A s c) {x : Nat} (hx : x ∈ A.fp s.E.φ.lv) : x < w.heap.size := by
  obtain ⟨o, ho, _⟩ := h.kind hx
  exact lt_of_at ho
theorem SideAt.ge (h : SideAt Z w A s c) {x : Nat} (hx : x ∈ A.fp s.E.φ.lv) : Z ≤ x := by
  obtain ⟨_, _, _, tk⟩ := h.tk
  obtain ⟨_, td⟩ := h.td
  have hh := h.high
  rcases Ad.mem_fp.1 hx with rfl | rfl | rfl | rfl | hx | hx | hx | hx
  · exact hh.1
  · exact hh.2.1
  · exact hh.2.2.1
  · exact hh.2.2.2.1
  · exact (h.tr.lt x hx).1
  · exact (tk.lt x hx).1
  · exact (td.lt x hx).1
  · exact hh.2.2.2.2 x hx
/-- A block of another kind is none of a side's. -/
theorem SideAt.not (h : SideAt Z w A s c) {g : Nat} {cs : Array Value} {t : TypeId} {p : Nat × Nat} (hg : w.heap[g]? = some (.cells cs t p)) (ht : t ≠ 72 ∧ t ≠ 109 ∧ t ≠ 139 ∧ t ≠ 66 ∧ t ≠ 60 ∧ t ≠ 9) : g ∉ A.fp s.E.φ.lv := by
  intro hx
  obtain ⟨o, ho, hk⟩ := h.kind hx
  rw [hg] at ho
  injection ho with ho
  subst ho
  rcases hk with ⟨_, _, hk⟩ | ⟨_, _, _, hk, hk2⟩
  · cases hk
  · injection hk with _ hk _
    subst hk
    obtain ⟨a1, a2, a3, a4, a5, a6⟩ := ht
    rcases hk2 with h | h | h | h | h | h
    · exact a1 h
    · exact a2 h
    · exact a3 h
    · exact a4 h
    · exact a5 h
    · exact a6 h
theorem EnG.move {e rb fl q : Nat} {E : EN} (h : EnG w e rb fl q E c) (h1 : w'.heap[e]? = w.heap[e]?) (h2 : w'.heap[rb]? = w.heap[rb]?) (h3 : w'.heap[fl]? = w.heap[fl]?) (h4 : w'.heap[q]? = w.heap[q]?) (h5 : ∀ b, E.φ.lv.ownBlock = some b → w'.heap[b]? = w.heap[b]?) : EnG w' e rb fl q E c := by
  obtain ⟨n, hn, hr⟩ := EnI.runs h
  have hb := h1.trans (EnI.box h)
  have hr' := hr.move h2
  have hf := (EnI.flow h).move h3 h4 h5
  exact ⟨hb, ⟨n, hn, hr'⟩, hf, Tail.nil _ _ _ _, Only.refl _ _, ⟨lt_of_at hb, hr'.lt, hf.lt.1, hf.lt.2⟩, fun _ hx => by cases hx⟩
theorem EnG.more {e rb fl q c' : Nat} {E : EN} (h : EnG w e rb fl q E c) (hc : c ≤ c') : EnG w e rb fl q E c' := EnI.more h hc
theorem SideAt.keep (h : SideAt Z w A s c) (hk : ∀ x, x ∈ A.fp s.E.φ.lv → w'.heap[x]? = w.heap[x]?) : SideAt Z w' A s c := by
  have hk' : ∀ x, (x = A.e ∨ x = A.rb ∨ x = A.fl ∨ x = A.q ∨ A.tov.ownBlock = some x ∨ A.tkv.ownBlock = some x ∨ A.tdv.ownBlock = some x ∨ s.E.φ.lv.ownBlock = some x) → w'.heap[x]? = w.heap[x]? := fun x hx => hk x (Ad.mem_fp.2 hx)
  obtain ⟨n, xs, hn, tk⟩ := h.tk
  obtain ⟨ys, td⟩ := h.td
  exact ⟨h.en.move (hk' _ (by simp)) (hk' _ (by simp)) (hk' _ (by simp)) (hk' _ (by simp)) (fun b hb => hk' b (by simp [hb])), h.tr.keep (fun b hb => hk' b (by simp [hb])), ⟨n, xs, hn, tk.keep (fun b hb => hk' b (by simp [hb]))⟩, ⟨ys, td.keep (fun b hb => hk' b (by simp [hb]))⟩, h.few, h.high, h.apart⟩
theorem SideAt.more {c' : Nat} (h : SideAt Z w A s c) (hc : c ≤ c') : SideAt Z w A s c' := by
  obtain ⟨n, xs, hn, tk⟩ := h.tk
  have hf := h.few
  exact ⟨h.en.more hc, h.tr, ⟨n, xs, by omega, tk⟩, h.td, by omega, h.high, h.apart⟩
end

/-- The pair's cells: side k is A's, the other one is B's. -/
def pairCells (k : Bool) (A B : Ad) (a b : SG) (er nx : Int) : Array Value :=
  match k with
  | false => #[.pointer (some ⟨A.e, 0, none⟩), .pointer (some ⟨B.e, 0, none⟩), A.tov, B.tov, A.tkv, B.tkv, A.tdv, B.tdv, .slice none 0 0, .slice none 0 0, .slice none 0 0, .slice none 0 0, .int .i64 er, .int .i64 a.u, .int .i64 b.u, .int .i64 0, .int .i64 0, .int .i64 nx]
  | true => #[.pointer (some ⟨B.e, 0, none⟩), .pointer (some ⟨A.e, 0, none⟩), B.tov, A.tov, B.tkv, A.tkv, B.tdv, A.tdv, .slice none 0 0, .slice none 0 0, .slice none 0 0, .slice none 0 0, .int .i64 er, .int .i64 b.u, .int .i64 a.u, .int .i64 0, .int .i64 0, .int .i64 nx]
/-- Both ends; X: boxes of the callers. -/
structure PairI (Z : Nat) (W0 : World) (X : List (Nat × Array Value)) (p : Nat) (k : Bool) (A B : Ad) (a b : SG) (c : Nat) (er nx : Int) (w : World) : Prop where
  box : w.heap[p]? = some (.cells (pairCells k A B a b er nx) 47 (0, 0))
  sa : SideAt Z w A a c
  sb : SideAt Z w B b c
  far : ∀ x, x ∈ A.fp a.E.φ.lv → x ∉ B.fp b.E.φ.lv
  hp : Z ≤ p
  bel : Below Z W0 w
  boxes : ∀ x, x ∈ X → w.heap[x.1]? = some (.cells x.2 24 (0, 0))
section
variable {Z : Nat} {W0 w w' : World} {X : List (Nat × Array Value)} {p : Nat} {k : Bool} {A B : Ad} {a b : SG} {c : Nat} {er nx : Int}
theorem PairI.swap (h : PairI Z W0 X p k A B a b c er nx w) : PairI Z W0 X p (!k) B A b a c er nx w :=
  ⟨by rw [h.box]; cases k <;> rfl, h.sb, h.sa, fun x hx hy => h.far x hy hx, h.hp, h.bel, h.boxes⟩
theorem PairI.size (h : PairI Z W0 X p k A B a b c er nx w) : W0.heap.size ≤ w.heap.size := h.bel.size
theorem PairI.more {c' : Nat} (h : PairI Z W0 X p k A B a b c er nx w) (hc : c ≤ c') : PairI Z W0 X p k A B a b c' er nx w :=
  ⟨h.box, h.sa.more hc, h.sb.more hc, h.far, h.hp, h.bel, h.boxes⟩
theorem PairI.notp (h : PairI Z W0 X p k A B a b c er nx w) : p ∉ A.fp a.E.φ.lv ∧ p ∉ B.fp b.E.φ.lv :=
  ⟨h.sa.not h.box (by decide), h.sb.not h.box (by decide)⟩
theorem PairI.notX (h : PairI Z W0 X p k A B a b c er nx w) : ∀ x, x ∈ X → x.1 ≠ p ∧ x.1 ∉ A.fp a.E.φ.lv ∧ x.1 ∉ B.fp b.E.φ.lv :=
  fun x hx => ⟨blk_ne (h.boxes x hx) h.box (by decide), h.sa.not (h.boxes x hx) (by decide), h.sb.not (h.boxes x hx) (by decide)⟩
/-- What turns none of its blocks leaves it. -/
theorem PairI.keep (h : PairI Z W0 X p k A B a b c er nx w) (hb : Below w.heap.size w w') (hZ : Z ≤ w.heap.size) : PairI Z W0 X p k A B a b c er nx w' :=
  ⟨(hb.block _ (lt_of_at h.box)).trans h.box, h.sa.keep (fun x hx => hb.block x (h.sa.lt hx)), h.sb.keep (fun x hx => hb.block x (h.sb.lt hx)), h.far, h.hp, h.bel.trans (hb.mono hZ), fun x hx => (hb.block _ (lt_of_at (h.boxes x hx))).trans (h.boxes x hx)⟩
theorem PairI.hZ (h : PairI Z W0 X p k A B a b c er nx w) : Z ≤ w.heap.size := Nat.le_trans h.hp (Nat.le_of_lt (lt_of_at h.box))
/-- Side k's entity was called. -/
theorem PairI.call (h : PairI Z W0 X p k A B a b c er nx w) {E' : EN} {c' : Nat} (he : EnG w' A.e A.rb A.fl A.q E' c') (hc : c ≤ c') (ho : Only [A.e, A.rb, A.fl, A.q] w w') (hl : ∀ x, E'.φ.lv.ownBlock = some x → a.E.φ.lv.ownBlock = some x ∨ w.heap.size ≤ x) :
    PairI Z W0 X p k A B { a with E := E' } b c' er nx w' := by
  have hm : ∀ x, x ∈ [A.e, A.rb, A.fl, A.q] → x ∈ A.fp a.E.φ.lv := by
    intro x hx
    refine Ad.mem_fp.2 ?_
    simp at hx
    rcases hx with rfl | rfl | rfl | rfl <;> simp
  obtain ⟨n, hn, hr⟩ := EnI.runs h.sa.en
  obtain ⟨es, clock, hmap⟩ := hr.obj
  have hbx := EnI.box h.sa.en
  have hfl := (EnI.flow h.sa.en).box
  have hqu := (EnI.flow h.sa.en).que
  obtain ⟨n1, xs, hn1, tk⟩ := h.sa.tk
  obtain ⟨ys, td⟩ := h.sa.td
  have row : ∀ {t : TypeId} {sz m : Nat} {v : Value} {zs : List Value}, Tail w Z t sz v m zs → t ≠ 72 → t ≠ 109 → t ≠ 139 → Tail w' Z t sz v m zs := by
    intro t sz m v zs ht h1 h2 h3
    refine ht.keep (fun x hx => ho.block x (ht.lt x hx).2 ?_)
    simp only [List.mem_cons, List.not_mem_nil, or_false]
    rintro (rfl | rfl | rfl | rfl)
    · exact ht.ne hbx h1 hx
    · exact ht.neMap hmap hx
    · exact ht.ne hfl h2 hx
    · exact ht.ne hqu h3 hx
  have hf := h.sa.few
  have hh := h.sa.high
  have hB : ∀ x, x ∈ B.fp b.E.φ.lv → w'.heap[x]? = w.heap[x]? := fun x hx => ho.block x (h.sb.lt hx) (fun hy => h.far x (hm x hy) hx)
  refine ⟨?_, ⟨he, row h.sa.tr (by decide) (by decide) (by decide), ⟨n1, xs, by omega, row tk (by decide) (by decide) (by decide)⟩, ⟨ys, row td (by decide) (by decide) (by decide)⟩, ⟨by show a.F.length ≤ c'; omega, by show a.nd ≤ c'; omega, by show a.u ≤ c'; omega⟩, ⟨hh.1, hh.2.1, hh.2.2.1, hh.2.2.2.1, ?_⟩, ?_⟩, (h.sb.keep hB).more hc, ?_, h.hp, ?_, ?_⟩
  · have := (ho.block p (lt_of_at h.box) (fun hy => h.notp.1 (hm p hy))).trans h.box
    rw [this]
    cases k <;> rfl
  · intro x hx
    rcases hl x hx with h1 | h1
    · exact hh.2.2.2.2 x h1
    · exact Nat.le_trans h.hZ h1
  · intro x hx hy
    rcases hl x hy with h1 | h1
    · exact h.sa.apart x hx h1
    · have := (td.lt x hx).2
      omega
  · intro x hx hy
    rcases Ad.mem_fp.1 hx with h1 | h1 | h1 | h1 | h1 | h1 | h1 | h1
    · exact h.far x (Ad.mem_fp.2 (by simp [h1])) hy
    · exact h.far x (Ad.mem_fp.2 (by simp [h1])) hy
    · exact h.far x (Ad.mem_fp.2 (by simp [h1])) hy
    · exact h.far x (Ad.mem_fp.2 (by simp [h1])) hy
    · exact h.far x (Ad.mem_fp.2 (by simp [h1])) hy
    · exact h.far x (Ad.mem_fp.2 (by simp [h1])) hy
    · exact h.far x (Ad.mem_fp.2 (by simp [h1])) hy
    · rcases hl x h1 with h2 | h2
      · exact h.far x (Ad.mem_fp.2 (by simp [h2])) hy
      · have := h.sb.lt hy
        omega
  · exact h.bel.trans (ho.below h.hZ (fun x hx => h.sa.ge (hm x hx)))
  · exact fun x hx => (ho.block _ (lt_of_at (h.boxes x hx)) (fun hy => (h.notX x hx).2.1 (hm _ hy))).trans (h.boxes x hx)
end
end Go.Proofs.YtlfcfmdblmedcaaGreatDoor.Mine
/- What appends and stores leave of a pair (written by wip/prb.py). -/
namespace Go.Proofs.YtlfcfmdblmedcaaGreatDoor.Mine
open Go.RowKit Go.Maps Go.Proofs.YtlfcfmdblmedcaaGreatDoorW.PrintWords
section
variable {Z : Nat} {w w1 : World} {A : Ad} {s : SG} {c : Nat}
theorem SideAt.old_tov (h : SideAt Z w A s c) (hg : w.grownBy w1 A.tov.ownBlock) : (EnG w1 A.e A.rb A.fl A.q s.E c) ∧ (∃ n xs, n ≤ c ∧ Tail w1 Z 60 2 A.tkv n xs) ∧ (∃ xs, Tail w1 Z 9 1 A.tdv s.nd xs) := by
  obtain ⟨n, xs, hn, tk⟩ := h.tk
  obtain ⟨ys, td⟩ := h.td
  obtain ⟨n1, hn1, hr⟩ := EnI.runs h.en
  obtain ⟨es, clock, hmap⟩ := hr.obj
  have hbx := EnI.box h.en
  have hfl := (EnI.flow h.en).box
  have hqu := (EnI.flow h.en).que
  have lv := (EnI.flow h.en).row
  have q : ∀ x, x < w.heap.size → A.tov.ownBlock ≠ some x → w1.heap[x]? = w.heap[x]? := fun x hx hne => hg.block x hx (fun e => hne e.symm)
  refine ⟨h.en.move (q _ (lt_of_at hbx) (h.tr.ne hbx (by decide))) (q _ (lt_of_at hmap) (h.tr.neMap hmap)) (q _ (lt_of_at hfl) (h.tr.ne hfl (by decide))) (q _ (lt_of_at hqu) (h.tr.ne hqu (by decide))) (fun b hb => q b (lv.lt b hb).2 ?_), ⟨n, xs, hn, tk.keep (fun b hb => q b (tk.lt b hb).2 ?_)⟩, ⟨ys, td.keep (fun b hb => q b (td.lt b hb).2 ?_)⟩⟩
  · obtain ⟨cs, hcs⟩ := lv.obj b hb
    exact h.tr.ne hcs (by decide)
  · obtain ⟨cs, hcs⟩ := tk.obj b hb
    exact h.tr.ne hcs (by decide)
  · obtain ⟨cs, hcs⟩ := td.obj b hb
    exact h.tr.ne hcs (by decide)
theorem SideAt.old_tkv (h : SideAt Z w A s c) (hg : w.grownBy w1 A.tkv.ownBlock) : (EnG w1 A.e A.rb A.fl A.q s.E c) ∧ Tail w1 Z 66 8 A.tov s.F.length (rowOf FrV.vals s.F) ∧ (∃ xs, Tail w1 Z 9 1 A.tdv s.nd xs) := by
  obtain ⟨n, xs, hn, tk⟩ := h.tk
  obtain ⟨ys, td⟩ := h.td
  obtain ⟨n1, hn1, hr⟩ := EnI.runs h.en
  obtain ⟨es, clock, hmap⟩ := hr.obj
  have hbx := EnI.box h.en
  have hfl := (EnI.flow h.en).box
  have hqu := (EnI.flow h.en).que
  have lv := (EnI.flow h.en).row
  have q : ∀ x, x < w.heap.size → A.tkv.ownBlock ≠ some x → w1.heap[x]? = w.heap[x]? := fun x hx hne => hg.block x hx (fun e => hne e.symm)
  refine ⟨h.en.move (q _ (lt_of_at hbx) (tk.ne hbx (by decide))) (q _ (lt_of_at hmap) (tk.neMap hmap)) (q _ (lt_of_at hfl) (tk.ne hfl (by decide))) (q _ (lt_of_at hqu) (tk.ne hqu (by decide))) (fun b hb => q b (lv.lt b hb).2 ?_), h.tr.keep (fun b hb => q b (h.tr.lt b hb).2 ?_), ⟨ys, td.keep (fun b hb => q b (td.lt b hb).2 ?_)⟩⟩
  · obtain ⟨cs, hcs⟩ := lv.obj b hb
    exact tk.ne hcs (by decide)
  · obtain ⟨cs, hcs⟩ := h.tr.obj b hb
    exact tk.ne hcs (by decide)
  · obtain ⟨cs, hcs⟩ := td.obj b hb
    exact tk.ne hcs (by decide)
theorem SideAt.old_tdv (h : SideAt Z w A s c) (hg : w.grownBy w1 A.tdv.ownBlock) : (EnG w1 A.e A.rb A.fl A.q s.E c) ∧ Tail w1 Z 66 8 A.tov s.F.length (rowOf FrV.vals s.F) ∧ (∃ n xs, n ≤ c ∧ Tail w1 Z 60 2 A.tkv n xs) := by
  obtain ⟨n, xs, hn, tk⟩ := h.tk
  obtain ⟨ys, td⟩ := h.td
  obtain ⟨n1, hn1, hr⟩ := EnI.runs h.en
  obtain ⟨es, clock, hmap⟩ := hr.obj
  have hbx := EnI.box h.en
  have hfl := (EnI.flow h.en).box
  have hqu := (EnI.flow h.en).que
  have lv := (EnI.flow h.en).row
  have q : ∀ x, x < w.heap.size → A.tdv.ownBlock ≠ some x → w1.heap[x]? = w.heap[x]? := fun x hx hne => hg.block x hx (fun e => hne e.symm)
  refine ⟨h.en.move (q _ (lt_of_at hbx) (td.ne hbx (by decide))) (q _ (lt_of_at hmap) (td.neMap hmap)) (q _ (lt_of_at hfl) (td.ne hfl (by decide))) (q _ (lt_of_at hqu) (td.ne hqu (by decide))) (fun b hb => q b (lv.lt b hb).2 ?_), h.tr.keep (fun b hb => q b (h.tr.lt b hb).2 ?_), ⟨n, xs, hn, tk.keep (fun b hb => q b (tk.lt b hb).2 ?_)⟩⟩
  · exact fun e => h.apart b e hb
  · obtain ⟨cs, hcs⟩ := h.tr.obj b hb
    exact td.ne hcs (by decide)
  · obtain ⟨cs, hcs⟩ := tk.obj b hb
    exact td.ne hcs (by decide)
/-- A frame more is on its way to this side. -/
theorem SideAt.newTo (h : SideAt Z w A s c) (hg : w.grownBy w1 A.tov.ownBlock) {v : Value} {f : FrV} (ht : Tail w1 Z 66 8 v (s.F.length + 1) (rowOf FrV.vals s.F ++ f.vals)) : SideAt Z w1 { A with tov := v } { s with F := s.F ++ [f] } (c + 1) := by
  obtain ⟨h1, h2, h3⟩ := h.old_tov hg
  obtain ⟨n, xs, hn, tk⟩ := h2
  have hf := h.few
  refine ⟨h1.more (Nat.le_succ c), ?_, ⟨n, xs, by omega, tk⟩, h3, ?_, h.high, h.apart⟩
  · show Tail w1 Z _ 8 v (s.F ++ [f]).length _
    rw [List.length_append, rowOf_snoc]
    exact ht
  · show (s.F ++ [f]).length ≤ c + 1 ∧ s.nd ≤ c + 1 ∧ s.u ≤ c + 1
    rw [List.length_append]
    simp
    omega
/-- An event more. -/
theorem SideAt.newTk (h : SideAt Z w A s c) (hg : w.grownBy w1 A.tkv.ownBlock) {v : Value} {n : Nat} {xs : List Value} (hn : n ≤ c) (ht : Tail w1 Z 60 2 v (n + 1) xs) : SideAt Z w1 { A with tkv := v } s (c + 1) := by
  obtain ⟨h1, h2, h3⟩ := h.old_tkv hg
  have hf := h.few
  exact ⟨h1.more (Nat.le_succ c), h2, ⟨n + 1, xs, by omega, ht⟩, h3, by omega, h.high, h.apart⟩
/-- A payload more. -/
theorem SideAt.newTd (h : SideAt Z w A s c) (hg : w.grownBy w1 A.tdv.ownBlock) {v : Value} {xs : List Value} (ht : Tail w1 Z 9 1 v (s.nd + 1) xs) (hat : v.ownBlock = A.tdv.ownBlock ∨ ∃ b, v.ownBlock = some b ∧ w.heap.size ≤ b) : SideAt Z w1 { A with tdv := v } { s with nd := s.nd + 1 } (c + 1) := by
  obtain ⟨h1, h2, h3⟩ := h.old_tdv hg
  obtain ⟨n, ys, hn, tk⟩ := h3
  have hf := h.few
  refine ⟨h1.more (Nat.le_succ c), h2, ⟨n, ys, by omega, tk⟩, ⟨xs, ht⟩, ⟨by show s.F.length ≤ c + 1; omega, by show s.nd + 1 ≤ c + 1; omega, by show s.u ≤ c + 1; omega⟩, h.high, fun b hb hl => ?_⟩
  rcases hat with hat | ⟨b', hb', hs⟩
  · exact h.apart b (hat ▸ hb) hl
  · have e : b = b' := by
      have := hb'.symm.trans hb
      injection this with this
      exact this.symm
    subst e
    have := ((EnI.flow h.en).row.lt b hl).2
    omega
/-- The first frame is taken off. -/
theorem SideAt.cutTo (h : SideAt Z w A s c) {v : Value} {f : FrV} {r : List FrV} (hF : s.F = f :: r) (ht : Tail w Z 66 8 v r.length (rowOf FrV.vals r)) : SideAt Z w { A with tov := v } { s with F := r } c := by
  have hf := h.few
  rw [hF] at hf
  simp at hf
  exact ⟨h.en, ht, h.tk, h.td, ⟨by show r.length ≤ c; omega, hf.2⟩, h.high, h.apart⟩
theorem SideAt.setU (h : SideAt Z w A s c) : SideAt Z w A { s with u := s.u + 1 } (c + 1) := by
  have hf := h.few
  have h' := h.more (Nat.le_succ c)
  exact ⟨h'.en, h'.tr, h'.tk, h'.td, ⟨h'.few.1, h'.few.2.1, by show s.u + 1 ≤ c + 1; omega⟩, h'.high, h'.apart⟩
end
/-- Where a new row lies. -/
theorem Ad.mem_new {A A' : Ad} {lv : Value} {m : Nat} (h0 : A'.e = A.e ∧ A'.rb = A.rb ∧ A'.fl = A.fl ∧ A'.q = A.q) (h1 : A'.tov.ownBlock = A.tov.ownBlock ∨ ∃ b, A'.tov.ownBlock = some b ∧ m ≤ b) (h2 : A'.tkv.ownBlock = A.tkv.ownBlock ∨ ∃ b, A'.tkv.ownBlock = some b ∧ m ≤ b) (h3 : A'.tdv.ownBlock = A.tdv.ownBlock ∨ ∃ b, A'.tdv.ownBlock = some b ∧ m ≤ b) {x : Nat} (hx : x ∈ A'.fp lv) : x ∈ A.fp lv ∨ m ≤ x := by
  obtain ⟨e1, e2, e3, e4⟩ := h0
  have new : ∀ {v v' : Value}, (v'.ownBlock = v.ownBlock ∨ ∃ b, v'.ownBlock = some b ∧ m ≤ b) → v'.ownBlock = some x → v.ownBlock = some x ∨ m ≤ x := by
    intro v v' h hv
    rcases h with h | ⟨b, h, hb⟩
    · exact Or.inl (h ▸ hv)
    · have e := h.symm.trans hv
      injection e with e
      exact Or.inr (by omega)
  rcases Ad.mem_fp.1 hx with hx | hx | hx | hx | hx | hx | hx | hx
  · exact Or.inl (Ad.mem_fp.2 (by simp [hx, e1]))
  · exact Or.inl (Ad.mem_fp.2 (by simp [hx, e2]))
  · exact Or.inl (Ad.mem_fp.2 (by simp [hx, e3]))
  · exact Or.inl (Ad.mem_fp.2 (by simp [hx, e4]))
  · exact (new h1 hx).imp (fun h => Ad.mem_fp.2 (by simp [h])) id
  · exact (new h2 hx).imp (fun h => Ad.mem_fp.2 (by simp [h])) id
  · exact (new h3 hx).imp (fun h => Ad.mem_fp.2 (by simp [h])) id
  · exact Or.inl (Ad.mem_fp.2 (by simp [hx]))
section
variable {Z : Nat} {W0 w w1 : World} {X : List (Nat × Array Value)} {p : Nat} {k : Bool} {A B : Ad} {a b : SG} {c : Nat} {er nx : Int}
/-- A store into the pair. -/
theorem PairI.store (h : PairI Z W0 X p k A B a b c er nx w) (i : Nat) (v : Value) {A' B' : Ad} {a' b' : SG} {c' : Nat} {er' nx' : Int} (hcells : (pairCells k A B a b er nx).setIfInBounds i v = pairCells k A' B' a' b' er' nx') (hp : w1.heap[p]? = w.heap[p]?) (hsa : SideAt Z w1 A' a' c') (hsb : SideAt Z w1 B' b' c') (hfar : ∀ x, x ∈ A'.fp a'.E.φ.lv → x ∉ B'.fp b'.E.φ.lv) (hbel : Below Z W0 w1) (hX : ∀ x, x ∈ X → w1.heap[x.1]? = w.heap[x.1]?) :
    PairI Z W0 X p k A' B' a' b' c' er' nx' (w1.setCell ⟨p, i, none⟩ v) := by
  have hpp := hp.trans h.box
  have np : p ∉ A'.fp a'.E.φ.lv ∧ p ∉ B'.fp b'.E.φ.lv := ⟨hsa.not hpp (by decide), hsb.not hpp (by decide)⟩
  have far : ∀ x, x ≠ p → (w1.setCell ⟨p, i, none⟩ v).heap[x]? = w1.heap[x]? := fun x hx => Below.heap_setCell _ _ _ _ hx
  refine ⟨at_put hpp i v hcells, hsa.keep (fun x hx => far x ?_), hsb.keep (fun x hx => far x ?_), hfar, h.hp, hbel.setCell h.hp v, fun x hx => (far _ (h.notX x hx).1).trans ((hX x hx).trans (h.boxes x hx))⟩
  · rintro rfl
    exact np.1 hx
  · rintro rfl
    exact np.2 hx
theorem PairI.far2 (h : PairI Z W0 X p k A B a b c er nx w) {A' B' : Ad} (hA : ∀ x, x ∈ A'.fp a.E.φ.lv → x ∈ A.fp a.E.φ.lv ∨ w.heap.size ≤ x) (hB : ∀ x, x ∈ B'.fp b.E.φ.lv → x ∈ B.fp b.E.φ.lv ∨ w.heap.size ≤ x) (one : A' = A ∨ B' = B) : ∀ x, x ∈ A'.fp a.E.φ.lv → x ∉ B'.fp b.E.φ.lv := by
  intro x hx hy
  rcases one with rfl | rfl
  · rcases hB x hy with h1 | h1
    · exact h.far x hx h1
    · have := h.sa.lt hx
      omega
  · rcases hA x hx with h1 | h1
    · exact h.far x h1 hy
    · have := h.sb.lt hy
      omega
theorem PairI.belG (h : PairI Z W0 X p k A B a b c er nx w) {r : Option Nat} (hg : w.grownBy w1 r) (hr : ∀ x, r = some x → Z ≤ x) : Below Z W0 w1 := h.bel.grown hg h.hZ hr
theorem PairI.boxG (h : PairI Z W0 X p k A B a b c er nx w) {r : Option Nat} (hg : w.grownBy w1 r) (hr : ∀ x, r = some x → x ∈ A.fp a.E.φ.lv ∨ x ∈ B.fp b.E.φ.lv) : w1.heap[p]? = w.heap[p]? ∧ ∀ x, x ∈ X → w1.heap[x.1]? = w.heap[x.1]? := by
  have np := h.notp
  refine ⟨hg.block p (lt_of_at h.box) (fun e => ?_), fun x hx => hg.block x.1 (lt_of_at (h.boxes x hx)) (fun e => ?_)⟩
  · rcases hr p e.symm with h1 | h1
    · exact np.1 h1
    · exact np.2 h1
  · have nx := h.notX x hx
    rcases hr x.1 e.symm with h1 | h1
    · exact nx.2.1 h1
    · exact nx.2.2 h1
theorem PairI.toB (h : PairI Z W0 X p k A B a b c er nx w) {v : Value} {f : FrV} (ht : Tail w1 Z 66 8 v (b.F.length + 1) (rowOf FrV.vals b.F ++ f.vals)) (hg : w.grownBy w1 B.tov.ownBlock) (hat : v.ownBlock = B.tov.ownBlock ∨ ∃ b, v.ownBlock = some b ∧ w.heap.size ≤ b) :
    PairI Z W0 X p k A { B with tov := v } a { b with F := b.F ++ [f] } (c + 1) er nx (w1.setCell ⟨p, match k with | false => 3 | true => 2, none⟩ v) := by
  have hin : ∀ x, B.tov.ownBlock = some x → x ∈ B.fp b.E.φ.lv := fun x hx => Ad.mem_fp.2 (by simp [hx])
  have hbx := h.boxG hg (fun x hx => Or.inr (hin x hx))
  have hoth : SideAt Z w1 A a c := by
    refine h.sa.keep (fun x hx => hg.block x (h.sa.lt hx) (fun e => ?_))
    exact h.far x hx (hin x e.symm)
  exact h.store _ v (by cases k <;> rfl) hbx.1 (hoth.more (Nat.le_succ c)) (h.sb.newTo hg ht) (h.far2 (fun x hx => Or.inl hx) (fun x hx => Ad.mem_new (A := B) (A' := { B with tov := v }) ⟨rfl, rfl, rfl, rfl⟩ (hat) (Or.inl rfl) (Or.inl rfl) hx) (Or.inl rfl)) (h.belG hg (fun x hx => h.sb.ge (hin x hx))) hbx.2
theorem PairI.tkA (h : PairI Z W0 X p k A B a b c er nx w) {v : Value} {n : Nat} {xs : List Value} (hn : n ≤ c) (ht : Tail w1 Z 60 2 v (n + 1) xs) (hg : w.grownBy w1 A.tkv.ownBlock) (hat : v.ownBlock = A.tkv.ownBlock ∨ ∃ b, v.ownBlock = some b ∧ w.heap.size ≤ b) :
    PairI Z W0 X p k { A with tkv := v } B a b (c + 1) er nx (w1.setCell ⟨p, match k with | false => 4 | true => 5, none⟩ v) := by
  have hin : ∀ x, A.tkv.ownBlock = some x → x ∈ A.fp a.E.φ.lv := fun x hx => Ad.mem_fp.2 (by simp [hx])
  have hbx := h.boxG hg (fun x hx => Or.inl (hin x hx))
  have hoth : SideAt Z w1 B b c := by
    refine h.sb.keep (fun x hx => hg.block x (h.sb.lt hx) (fun e => ?_))
    exact h.far x (hin x e.symm) hx
  exact h.store _ v (by cases k <;> rfl) hbx.1 (h.sa.newTk hg hn ht) (hoth.more (Nat.le_succ c)) (h.far2 (fun x hx => Ad.mem_new (A := A) (A' := { A with tkv := v }) ⟨rfl, rfl, rfl, rfl⟩ (Or.inl rfl) (hat) (Or.inl rfl) hx) (fun x hx => Or.inl hx) (Or.inr rfl)) (h.belG hg (fun x hx => h.sa.ge (hin x hx))) hbx.2
theorem PairI.tdA (h : PairI Z W0 X p k A B a b c er nx w) {v : Value} {xs : List Value} (ht : Tail w1 Z 9 1 v (a.nd + 1) xs) (hg : w.grownBy w1 A.tdv.ownBlock) (hat : v.ownBlock = A.tdv.ownBlock ∨ ∃ b, v.ownBlock = some b ∧ w.heap.size ≤ b) :
    PairI Z W0 X p k { A with tdv := v } B { a with nd := a.nd + 1 } b (c + 1) er nx (w1.setCell ⟨p, match k with | false => 6 | true => 7, none⟩ v) := by
  have hin : ∀ x, A.tdv.ownBlock = some x → x ∈ A.fp a.E.φ.lv := fun x hx => Ad.mem_fp.2 (by simp [hx])
  have hbx := h.boxG hg (fun x hx => Or.inl (hin x hx))
  have hoth : SideAt Z w1 B b c := by
    refine h.sb.keep (fun x hx => hg.block x (h.sb.lt hx) (fun e => ?_))
    exact h.far x (hin x e.symm) hx
  exact h.store _ v (by cases k <;> rfl) hbx.1 (h.sa.newTd hg ht hat) (hoth.more (Nat.le_succ c)) (h.far2 (fun x hx => Ad.mem_new (A := A) (A' := { A with tdv := v }) ⟨rfl, rfl, rfl, rfl⟩ (Or.inl rfl) (Or.inl rfl) (hat) hx) (fun x hx => Or.inl hx) (Or.inr rfl)) (h.belG hg (fun x hx => h.sa.ge (hin x hx))) hbx.2
/-- The first frame to side k is taken off. -/
theorem PairI.cutA (h : PairI Z W0 X p k A B a b c er nx w) {v : Value} {f : FrV} {r : List FrV} (hF : a.F = f :: r) (ht : Tail w Z 66 8 v r.length (rowOf FrV.vals r)) (hat : v.ownBlock = A.tov.ownBlock) :
    PairI Z W0 X p k { A with tov := v } B { a with F := r } b c er nx (w.setCell ⟨p, match k with | false => 2 | true => 3, none⟩ v) :=
  h.store _ v (by cases k <;> rfl) rfl (h.sa.cutTo hF ht) h.sb (h.far2 (fun x hx => Ad.mem_new (A := A) (A' := { A with tov := v }) ⟨rfl, rfl, rfl, rfl⟩ (Or.inl hat) (Or.inl rfl) (Or.inl rfl) hx) (fun x hx => Or.inl hx) (Or.inr rfl)) h.bel (fun _ _ => rfl)
theorem PairI.setEr (h : PairI Z W0 X p k A B a b c er nx w) (x : Int) : PairI Z W0 X p k A B a b c x nx (w.setCell ⟨p, 12, none⟩ (.int .i64 x)) :=
  h.store 12 _ (by cases k <;> rfl) rfl h.sa h.sb h.far h.bel (fun _ _ => rfl)
theorem PairI.setNx (h : PairI Z W0 X p k A B a b c er nx w) (x : Int) : PairI Z W0 X p k A B a b c er x (w.setCell ⟨p, 17, none⟩ (.int .i64 x)) :=
  h.store 17 _ (by cases k <;> rfl) rfl h.sa h.sb h.far h.bel (fun _ _ => rfl)
theorem PairI.setUp (h : PairI Z W0 X p k A B a b c er nx w) : PairI Z W0 X p k A B { a with u := a.u + 1 } b (c + 1) er nx (w.setCell ⟨p, match k with | false => 13 | true => 14, none⟩ (.int .i64 ((a.u : Int) + 1))) :=
  h.store _ _ (by cases k <;> rfl) rfl h.sa.setU (h.sb.more (Nat.le_succ c)) h.far h.bel (fun _ _ => rfl)
end
end Go.Proofs.YtlfcfmdblmedcaaGreatDoor.Mine
