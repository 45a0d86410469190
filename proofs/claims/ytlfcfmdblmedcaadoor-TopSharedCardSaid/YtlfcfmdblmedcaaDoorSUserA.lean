/- A user in memory; the contracts of said, View, KindOf, ask, lose. -/
import Derived.Test.YtlfcfmdblmedcaaDoorPut
import Derived.Test.YtlfcfmdblmedcaaDoorDrawNew
namespace Go.Proofs.YtlfcfmdblmedcaaDoor.Mine
open Go.RowKit Go.Proofs.YtlfcfmdblmedcaaDoorW.PrintWords
attribute [local go_sem] max_int min_int max_of_two min_of_two

/-- Where a user's numbers come from: nowhere, or a source in a block, whose list lies in another. -/
abbrev Dr := Option (Nat × Nat)
abbrev Pn := List Int × Int
def srcV (D : Dr) : Value := .pointer (D.map fun q => ⟨q.1, 0, none⟩)
def dset (D : Dr) : List Nat := match D with | none => [] | some q => [q.1]
def dnxt (D : Dr) (p : Pn) : Int × Pn := match D with | none => (0, p) | some _ => nxt p
def Sr (w : World) (g : Nat) (D : Dr) (p : Pn) : Prop := match D with | none => True | some q => Src w q.1 q.2 p.1 p.2 ∧ g ≠ q.1 ∧ g ≠ q.2
theorem dnxt_range (D : Dr) (p : Pn) : 0 ≤ (dnxt D p).1 ∧ (dnxt D p).1 ≤ 65535 := by
  cases D with
  | none => simp [dnxt]
  | some q => exact nxt_range p
theorem Sr.keep {w w' : World} {g : Nat} {D : Dr} {p : Pn} {S : List Nat} (h : Sr w g D p) (k : Only S w w') (hs : ∀ x ∈ S, x = g ∨ w.heap.size ≤ x) : Sr w' g D p := by
  cases D with
  | none => trivial
  | some q =>
    obtain ⟨h1, h2, h3⟩ := h
    refine ⟨?_, h2, h3⟩
    obtain ⟨A, c, a1, a2, a3, a4⟩ := h1
    have hn : ∀ x, x ∈ S → x ≠ g → w.heap.size ≤ x := fun x hx hg => (hs x hx).resolve_left hg
    refine ⟨A, c, k.at a1 (fun hm => ?_), a2, a3, a4.imp id ?_⟩
    · have := hn _ hm (fun e => h2 e.symm)
      have := lt_of_at a1
      omega
    · rintro ⟨b1, off, hA, hrow⟩
      refine ⟨b1, off, hA, hrow.keep (fun hl => k.block q.2 hl (fun hm => ?_))⟩
      have := hn _ hm (fun e => h3 e.symm)
      omega
theorem Sr.notin {w : World} {g : Nat} {D : Dr} {p : Pn} (h : Sr w g D p) : g ∉ dset D := by
  cases D with
  | none => simp [dset]
  | some q => simp [dset]; exact h.2.1

theorem snext_any {D : Dr} {g : Nat} {p : Pn} (w : World) (h : Sr w g D p) :
    Calls Tryd.prog 42 #[srcV D] w fun e w' => e = .returned (.int .i64 (dnxt D p).1) ∧ Sr w' g D (dnxt D p).2 ∧ Only (dset D) w w' := by
  cases D with
  | none =>
    refine (next_none w).mono ?_
    rintro e w' ⟨rfl, rfl⟩
    exact ⟨rfl, trivial, Only.refl _ _⟩
  | some q =>
    obtain ⟨h1, h2, h3⟩ := h
    refine (next_any w h1).mono ?_
    rintro e w' ⟨rfl, a, b⟩
    exact ⟨rfl, ⟨a, h2, h3⟩, b⟩

/-- What a user has. -/
structure US where
  tei : Int
  asking : Bool
  ri : Int
  tries : Int
deriving DecidableEq
def US.vals (s : US) : Array Value := #[.int .i64 s.tei, .bool s.asking, .int .i64 s.ri, .int .i64 s.tries]
def US.wf (s : US) (most : Int) : Prop := -1 ≤ s.tei ∧ s.tei ≤ 127 ∧ 0 ≤ s.ri ∧ s.ri ≤ 65535 ∧ 0 ≤ s.tries ∧ s.tries ≤ most ∧ 1 ≤ most ∧ most ≤ 32 ∧ (s.asking = false ∨ s.tei = -1 ∧ 1 ≤ s.tries) ∧ s.tei ≠ 127
def UAt (w : World) (g : Nat) (D : Dr) (most : Int) (s : US) (p : Pn) : Prop :=
  w.heap[g]? = some (.cells #[.int .i64 s.tei, .bool s.asking, .int .i64 s.ri, .int .i64 s.tries, .int .i64 most, .func (.func 42) #[srcV D] #[]] 113 (0, 0)) ∧ Sr w g D p ∧ s.wf most
def uset (g : Nat) (D : Dr) : List Nat := g :: dset D
theorem UAt.keep {w w' : World} {g : Nat} {D : Dr} {most : Int} {s : US} {p : Pn} {S : List Nat} (h : UAt w g D most s p) (k : Only S w w') (hs : ∀ x ∈ S, w.heap.size ≤ x) : UAt w' g D most s p :=
  ⟨k.at h.1 (fun hm => by have := hs _ hm; have := lt_of_at h.1; omega), h.2.1.keep k (fun x hx => Or.inr (hs x hx)), h.2.2⟩
theorem UAt.below {w w' : World} {g : Nat} {D : Dr} {most : Int} {s : US} {p : Pn} (h : UAt w g D most s p) (k : Below w.heap.size w w') : UAt w' g D most s p :=
  h.keep (Only.of_below k []) (fun x hx => by simp at hx)
theorem UAt.lt {w : World} {g : Nat} {D : Dr} {most : Int} {s : US} {p : Pn} (h : UAt w g D most s p) : g < w.heap.size := lt_of_at h.1

/-- An effect, as five numbers: its kind, its message, its TEI. -/
structure Ef where
  kind : Int
  type : Int
  ri : Int
  ai : Int
  tei : Int
deriving DecidableEq
def Ef.vals (x : Ef) : List Value := [.int .i64 x.kind, .int .i64 x.type, .int .i64 x.ri, .int .i64 x.ai, .int .i64 x.tei]
def efCells : List Ef → List Value
  | [] => []
  | x :: l => x.vals ++ efCells l
/-- Effects in a block of the call's own. -/
def Efs (B : Nat) (w : World) (v : Value) (l : List Ef) : Prop :=
  ∃ A c, v = .slice A l.length c ∧ (l = [] ∨ ∃ b, A = some ⟨b, 0, none⟩ ∧ B ≤ b ∧ w.heap[b]? = some (.cells (efCells l).toArray 102 (0, 0)))
theorem Efs.nil (B : Nat) (w : World) : Efs B w (.slice none 0 0) [] := ⟨none, 0, rfl, Or.inl rfl⟩
theorem Efs.one (B : Nat) (w : World) (x : Ef) (hB : B ≤ w.heap.size) {b : Nat} (hb : b = w.heap.size) : Efs B (w.alloc (.cells #[.int .i64 x.kind, .int .i64 x.type, .int .i64 x.ri, .int .i64 x.ai, .int .i64 x.tei] 102)) (.slice (some ⟨b, 0, none⟩) 1 1) [x] :=
  ⟨_, _, rfl, Or.inr ⟨_, rfl, by omega, hb ▸ at_new _ _⟩⟩
theorem Efs.two (B : Nat) (w : World) (x y : Ef) (hB : B ≤ w.heap.size) {b : Nat} (hb : b = w.heap.size) : Efs B (w.alloc (.cells #[.int .i64 x.kind, .int .i64 x.type, .int .i64 x.ri, .int .i64 x.ai, .int .i64 x.tei, .int .i64 y.kind, .int .i64 y.type, .int .i64 y.ri, .int .i64 y.ai, .int .i64 y.tei] 102)) (.slice (some ⟨b, 0, none⟩) 2 2) [x, y] :=
  ⟨_, _, rfl, Or.inr ⟨_, rfl, by omega, hb ▸ at_new _ _⟩⟩

theorem said_any (t ri ai : Int) (w : World) :
    Calls Tryd.prog 48 #[.int .i64 t, .int .i64 ri, .int .i64 ai] w fun e w' => e = .returned (.agg #[.int .i64 0, .int .i64 t, .int .i64 ri, .int .i64 ai, .int .i64 0]) ∧ Below w.heap.size w w' := by
  go_enter Tryd.func48, Tryd.ntmps48
  go_wp2
  refine bodyPost_ret (results_cell_row rfl _ _ w.heap.size 102 #[.int .i64 0, .int .i64 t, .int .i64 ri, .int .i64 ai, .int .i64 0] (0, 0) _ rfl (at_new _ _) Tryd.underlying102 rfl (by kernel_rfl)) rfl ?_
  exact ⟨rfl, (Below.refl _ _).alloc (Nat.le_refl _) _⟩

theorem view_any {g : Nat} {D : Dr} {most : Int} {s : US} {p : Pn} (w : World) (h : UAt w g D most s p) :
    Calls Tryd.prog 21 #[.pointer (some ⟨g, 0, none⟩)] w fun e w' => e = .returned (.agg s.vals) ∧ Below w.heap.size w w' := by
  have c0 := at_cell h.1 0
  have c1 := at_cell h.1 1
  have c2 := at_cell h.1 2
  have c3 := at_cell h.1 3
  simp at c0 c1 c2 c3
  have hl := h.lt
  clear h
  go_enter Tryd.func21, Tryd.ntmps21
  go_wp2
  refine bodyPost_ret (results_cell_row rfl _ _ w.heap.size 68 s.vals (0, 0) _ rfl (at_new _ _) Tryd.underlying68 rfl (by kernel_rfl)) rfl ?_
  exact ⟨rfl, (Below.refl _ _).alloc (Nat.le_refl _) _⟩

theorem kindOf_any (a : Int) (w : World) :
    Calls Tryd.prog 46 #[.int .i64 a] w fun e w' => e = .returned (.int .i64 (if a < 0 ∨ 127 < a then 0 else if a < 64 then 1 else if a ≤ 126 then 2 else 3)) ∧ w' = w := by
  by_cases h0 : a < 0
  · rw [if_pos (Or.inl h0)]
    go_enter Tryd.func46, Tryd.ntmps46
    go_wp2
    go_ret
    exact ⟨rfl, rfl⟩
  by_cases h1 : 127 < a
  · rw [if_pos (Or.inr h1)]
    go_enter Tryd.func46, Tryd.ntmps46
    go_wp2
    go_ret
    exact ⟨rfl, rfl⟩
  rw [if_neg (by omega)]
  by_cases h2 : a < 64
  · rw [if_pos h2]
    go_enter Tryd.func46, Tryd.ntmps46
    go_wp2
    go_ret
    exact ⟨rfl, rfl⟩
  rw [if_neg h2]
  by_cases h3 : a ≤ 126
  · rw [if_pos h3]
    go_enter Tryd.func46, Tryd.ntmps46
    go_wp2
    go_ret
    exact ⟨rfl, rfl⟩
  · rw [if_neg h3]
    go_enter Tryd.func46, Tryd.ntmps46
    go_wp2
    go_ret
    exact ⟨rfl, rfl⟩

/-- What Want, Timeout and the others do to a user, in plain numbers. -/
def uAsk (D : Dr) (p : Pn) (tries : Int) : List Ef × US × Pn :=
  ([⟨0, 1, (dnxt D p).1, 127, 0⟩, ⟨4, 0, 0, 0, 0⟩], ⟨-1, true, (dnxt D p).1, tries⟩, (dnxt D p).2)
def uIdle : US := ⟨-1, false, 0, 0⟩

theorem UAt.set {w : World} {g : Nat} {D : Dr} {most : Int} {s : US} {p : Pn} (h : UAt w g D most s p) (t : US) (ht : t.wf most) :
    UAt ((((w.setCell ⟨g, 0, none⟩ (.int .i64 t.tei)).setCell ⟨g, 1, none⟩ (.bool t.asking)).setCell ⟨g, 2, none⟩ (.int .i64 t.ri)).setCell ⟨g, 3, none⟩ (.int .i64 t.tries)) g D most t p := by
  refine ⟨?_, ?_, ht⟩
  · rw [at_set (at_set (at_set (at_set h.1 0 _) 1 _) 2 _) 3 _]; rfl
  · have k : Only [g] w ((((w.setCell ⟨g, 0, none⟩ (.int .i64 t.tei)).setCell ⟨g, 1, none⟩ (.bool t.asking)).setCell ⟨g, 2, none⟩ (.int .i64 t.ri)).setCell ⟨g, 3, none⟩ (.int .i64 t.tries)) :=
      ((((Only.refl _ _).setCell (Or.inl (by simp)) _).setCell (Or.inl (by simp)) _).setCell (Or.inl (by simp)) _).setCell (Or.inl (by simp)) _
    exact h.2.1.keep k (fun x hx => by simp at hx; exact Or.inl hx)

theorem UAt.next {w w1 : World} {g : Nat} {D : Dr} {most : Int} {s : US} {p p1 : Pn} (h : UAt w g D most s p) (hs : Sr w1 g D p1) (k : Only (dset D) w w1) : UAt w1 g D most s p1 := ⟨k.at h.1 h.2.1.notin, hs, h.2.2⟩
theorem UAt.cells {w : World} {g : Nat} {D : Dr} {most : Int} {s : US} {p : Pn} (h : UAt w g D most s p) :
    w.cell? ⟨g, 0, none⟩ = some (.int .i64 s.tei) ∧ w.cell? ⟨g, 1, none⟩ = some (.bool s.asking) ∧ w.cell? ⟨g, 2, none⟩ = some (.int .i64 s.ri) ∧ w.cell? ⟨g, 3, none⟩ = some (.int .i64 s.tries) ∧ w.cell? ⟨g, 4, none⟩ = some (.int .i64 most) ∧ w.cell? ⟨g, 5, none⟩ = some (.func (.func 42) #[srcV D] #[]) := by
  have c0 := at_cell h.1 0
  have c1 := at_cell h.1 1
  have c2 := at_cell h.1 2
  have c3 := at_cell h.1 3
  have c4 := at_cell h.1 4
  have c5 := at_cell h.1 5
  simp at c0 c1 c2 c3 c4 c5
  exact ⟨c0, c1, c2, c3, c4, c5⟩
theorem UAt.free {w : World} {g : Nat} {D : Dr} {most : Int} {s : US} {p : Pn} (h : UAt w g D most s p) :
    w.frozen? ⟨g, 0, none⟩ = false ∧ w.frozen? ⟨g, 1, none⟩ = false ∧ w.frozen? ⟨g, 2, none⟩ = false ∧ w.frozen? ⟨g, 3, none⟩ = false :=
  ⟨at_frozen h.1 0, at_frozen h.1 1, at_frozen h.1 2, at_frozen h.1 3⟩
theorem Only.user {w w1 : World} {g : Nat} {D : Dr} (k : Only (dset D) w w1) : Only (uset g D) w w1 := k.mono (fun _ hx => List.mem_cons_of_mem _ hx)
theorem Only.put4 {w w1 : World} {g : Nat} {D : Dr} (k : Only (uset g D) w w1) (a b c d : Value) : Only (uset g D) w ((((w1.setCell ⟨g, 0, none⟩ a).setCell ⟨g, 1, none⟩ b).setCell ⟨g, 2, none⟩ c).setCell ⟨g, 3, none⟩ d) := by
  have m : g ∈ uset g D := by simp [uset]
  exact (((k.setCell (Or.inl m) _).setCell (Or.inl m) _).setCell (Or.inl m) _).setCell (Or.inl m) _

set_option maxHeartbeats 1000000 in
theorem ask_any {g : Nat} {D : Dr} {most : Int} {s : US} {p : Pn} (tries : Int) (w : World) (h : UAt w g D most s p) (ht : 1 ≤ tries ∧ tries ≤ most) :
    Calls Tryd.prog 44 #[.pointer (some ⟨g, 0, none⟩), .int .i64 tries] w fun e w' => ∃ v, e = .returned v ∧ Efs w.heap.size w' v (uAsk D p tries).1 ∧ UAt w' g D most (uAsk D p tries).2.1 (uAsk D p tries).2.2 ∧ Only (uset g D) w w' := by
  have c5 := h.cells.2.2.2.2.2
  have H := Lib.hid h
  have HT := Lib.hid ht
  clear h ht
  go_enter Tryd.func44, Tryd.ntmps44
  go_wp2_with (first | (go_at_call 42; refine (snext_any _ H.out.2.1).mono ?_; rintro e w1 ⟨rfl, hs1, k1⟩; have hu1 := H.out.next hs1 k1; obtain ⟨c0, c1, c2, c3, -, -⟩ := hu1.cells; obtain ⟨f0, f1, f2, f3⟩ := hu1.free; have HU1 := Lib.hid hu1; have K1 := Lib.hid k1; clear hu1 hs1 k1) | (go_at_call 48; refine (said_any _ _ _ _).mono ?_; rintro e w2 ⟨rfl, b2⟩; have B2 := Lib.hid b2; clear b2))
  go_ret
  have hw : US.wf ⟨-1, true, (dnxt D p).1, tries⟩ most := by
    have h1 := H.out.2.2
    have h2 := HT.out
    have h3 := dnxt_range D p
    unfold US.wf at h1 ⊢
    refine ⟨by simp, by simp, h3.1, h3.2, ?_, ?_, ?_, ?_, ?_, ?_⟩ <;> first | omega | (simp; done) | (simp; omega)
  have k := (K1.out.user.put4 (.int .i64 (-1)) (.bool true) (.int .i64 (dnxt D p).1) (.int .i64 tries)).trans (Only.of_below B2.out (uset g D))
  refine ⟨_, rfl, Efs.two _ _ ⟨0, 1, (dnxt D p).1, 127, 0⟩ ⟨4, 0, 0, 0, 0⟩ k.size (by simp), ?_, k.alloc _⟩
  exact ((HU1.out.set _ hw).below B2.out).below ((Below.refl _ _).alloc (Nat.le_refl _) _)

def uLose (s : US) : List Ef × US := ([⟨2, 0, 0, 0, s.tei⟩], uIdle)
theorem wf_idle {s : US} {most : Int} (h : s.wf most) : uIdle.wf most := by
  unfold US.wf at h ⊢
  unfold uIdle
  refine ⟨by simp, by simp, by simp, by simp, by simp, ?_, ?_, ?_, Or.inl rfl, by simp⟩ <;> first | omega | (simp; done) | (simp; omega)

set_option maxHeartbeats 1000000 in
theorem lose_any {g : Nat} {D : Dr} {most : Int} {s : US} {p : Pn} (w : World) (h : UAt w g D most s p) :
    Calls Tryd.prog 47 #[.pointer (some ⟨g, 0, none⟩)] w fun e w' => ∃ v, e = .returned v ∧ Efs w.heap.size w' v (uLose s).1 ∧ UAt w' g D most (uLose s).2 p ∧ Only (uset g D) w w' := by
  obtain ⟨c0, c1, c2, c3, -, -⟩ := h.cells
  obtain ⟨f0, f1, f2, f3⟩ := h.free
  have H := Lib.hid h
  clear h
  go_enter Tryd.func47, Tryd.ntmps47
  go_wp2
  go_ret
  have k := (Only.refl (uset g D) w).put4 (.int .i64 (-1)) (.bool false) (.int .i64 0) (.int .i64 0)
  refine ⟨_, rfl, Efs.one _ _ ⟨2, 0, 0, 0, s.tei⟩ k.size (by simp), ?_, k.alloc _⟩
  exact (H.out.set _ (wf_idle H.out.2.2)).below ((Below.refl _ _).alloc (Nat.le_refl _) _)

/-- What an act of a user does and is: what it does, the error, what the user has then. -/
structure Did where
  efs : List Ef
  err : Int
  st : US
  pn : Pn
def uWant (D : Dr) (s : US) (p : Pn) : Did :=
  if s.tei ≠ -1 then ⟨[], 13, s, p⟩ else if s.asking then ⟨[], 12, s, p⟩ else ⟨(uAsk D p 1).1, 0, (uAsk D p 1).2.1, (uAsk D p 1).2.2⟩
def uVerify (s : US) (p : Pn) : Did := if s.tei = -1 then ⟨[], 11, s, p⟩ else ⟨[⟨0, 7, 0, s.tei, 0⟩], 0, s, p⟩
def uDrop (s : US) (p : Pn) : Did := if s.asking then ⟨[⟨5, 0, 0, 0, 0⟩], 0, uIdle, p⟩ else if s.tei = -1 then ⟨[], 11, s, p⟩ else ⟨(uLose s).1, 0, (uLose s).2, p⟩
def uTimeout (D : Dr) (most : Int) (s : US) (p : Pn) : Did :=
  if s.asking then if s.tries = most then ⟨[⟨3, 0, 0, 0, 0⟩], 0, uIdle, p⟩ else ⟨(uAsk D p (s.tries + 1)).1, 0, (uAsk D p (s.tries + 1)).2.1, (uAsk D p (s.tries + 1)).2.2⟩ else ⟨[], 0, s, p⟩

def Done (w : World) (g : Nat) (D : Dr) (most : Int) (d : Did) (v : Value) (w' : World) : Prop :=
  Efs w.heap.size w' v d.efs ∧ UAt w' g D most d.st d.pn ∧ Only (uset g D) w w'

set_option maxHeartbeats 1000000 in
theorem want_any {g : Nat} {D : Dr} {most : Int} {s : US} {p : Pn} (w : World) (h : UAt w g D most s p) :
    Calls Tryd.prog 18 #[.pointer (some ⟨g, 0, none⟩)] w fun e w' => ∃ v, e = .returned (.tuple #[v, .int .i64 (uWant D s p).err]) ∧ Done w g D most (uWant D s p) v w' := by
  obtain ⟨c0, c1, -, -, -, -⟩ := h.cells
  by_cases h0 : s.tei = -1
  · rcases ha : s.asking with _ | _
    · have hd : uWant D s p = ⟨(uAsk D p 1).1, 0, (uAsk D p 1).2.1, (uAsk D p 1).2.2⟩ := by unfold uWant; simp [h0, ha]
      rw [hd]
      rw [h0] at c0
      rw [ha] at c1
      have hw := h.2.2
      have H := Lib.hid h
      have hm : 1 ≤ (1 : Int) ∧ (1 : Int) ≤ most := by unfold US.wf at hw; omega
      have HM := Lib.hid hm
      clear h hd hw hm h0 ha
      go_enter Tryd.func18, Tryd.ntmps18
      go_wp2_with (go_at_call 44; refine (ask_any 1 _ H.out HM.out).mono ?_; rintro e w1 ⟨v, rfl, a1, a2, a3⟩; have A1 := Lib.hid a1; have A2 := Lib.hid a2; have A3 := Lib.hid a3; clear a1 a2 a3)
      go_ret2
      exact ⟨v, rfl, A1.out, A2.out, A3.out⟩
    · have hd : uWant D s p = ⟨[], 12, s, p⟩ := by unfold uWant; simp [h0, ha]
      rw [hd]
      rw [h0] at c0
      rw [ha] at c1
      have H := Lib.hid h
      clear h hd h0 ha
      go_enter Tryd.func18, Tryd.ntmps18
      go_wp2
      go_ret2
      exact ⟨_, rfl, Efs.nil _ _, H.out, Only.refl _ _⟩
  · have hd : uWant D s p = ⟨[], 13, s, p⟩ := by unfold uWant; simp [h0]
    rw [hd]
    have H := Lib.hid h
    clear h hd
    go_enter Tryd.func18, Tryd.ntmps18
    go_wp2
    go_ret2
    exact ⟨_, rfl, Efs.nil _ _, H.out, Only.refl _ _⟩

end Go.Proofs.YtlfcfmdblmedcaaDoor.Mine
