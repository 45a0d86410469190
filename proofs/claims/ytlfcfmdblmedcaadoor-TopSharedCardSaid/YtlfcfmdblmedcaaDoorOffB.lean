/- The users of an office, side by side; what is said to all of them. -/
import Derived.Test.YtlfcfmdblmedcaaDoorOffA
namespace Go.Proofs.YtlfcfmdblmedcaaDoor.Mine
open Go.RowKit Go.Maps Go.Proofs.YtlfcfmdblmedcaaDoorW.PrintWords

/-- A user: where it lies, between which blocks, what it has. -/
structure UR where
  g : Nat
  d : Nat
  r : Nat
  lo : Nat
  hi : Nat
  s : US
  p : Pn
def UR.turn (u : UR) (d : Did) : UR := { u with s := d.st, p := d.pn }
structure UR.Ok (u : UR) (Z : Nat) (w : World) : Prop where
  at_ : UAt w u.g (some (u.d, u.r)) 3 u.s u.p
  gz : u.lo ≤ u.g ∧ u.g < u.hi
  dz : u.lo ≤ u.d ∧ u.d < u.hi
  rz : u.lo ≤ u.r ∧ u.r < u.hi
  top : u.hi ≤ w.heap.size
  low : Z ≤ u.lo
theorem UAt.away {w w' : World} {g d r : Nat} {most : Int} {s : US} {p : Pn} {S : List Nat} (h : UAt w g (some (d, r)) most s p) (k : Only S w w') (h1 : g ∉ S) (h2 : d ∉ S) (h3 : r ∉ S) : UAt w' g (some (d, r)) most s p := by
  refine ⟨k.at h.1 h1, ?_, h.2.2⟩
  obtain ⟨⟨A, c, a1, a2, a3, a4⟩, q2, q3⟩ := h.2.1
  refine ⟨⟨A, c, k.at a1 h2, a2, a3, a4.imp id ?_⟩, q2, q3⟩
  rintro ⟨b1, off, hA, hrow⟩
  exact ⟨b1, off, hA, hrow.keep (fun hl => k.block r hl h3)⟩
theorem UR.Ok.keep {u : UR} {Z : Nat} {w w' : World} {S : List Nat} (h : u.Ok Z w) (k : Only S w w') (hS : ∀ x ∈ S, x < u.lo ∨ u.hi ≤ x) : u.Ok Z w' := by
  have hn : ∀ x, u.lo ≤ x ∧ x < u.hi → x ∉ S := fun x hx hm => by have := hS x hm; omega
  exact ⟨h.at_.away k (hn _ h.gz) (hn _ h.dz) (hn _ h.rz), h.gz, h.dz, h.rz, Nat.le_trans h.top k.size, h.low⟩
structure UsAt (Z : Nat) (w : World) (us : List UR) : Prop where
  all : ∀ u ∈ us, u.Ok Z w
  apart : us.Pairwise (fun a b => a.hi ≤ b.lo)
theorem UsAt.keep {Z : Nat} {w w' : World} {us : List UR} {S : List Nat} (h : UsAt Z w us) (k : Only S w w') (hS : ∀ x ∈ S, x < Z ∨ w.heap.size ≤ x) : UsAt Z w' us :=
  ⟨fun u hu => (h.all u hu).keep k (fun x hx => by have h1 := (h.all u hu).low; have h2 := (h.all u hu).top; have := hS x hx; omega), h.apart⟩
/-- One of them turns. -/
theorem UsAt.turn {Z : Nat} {w w' : World} {a b : List UR} {u : UR} {d : Did} (h : UsAt Z w (a ++ u :: b)) (k : Only [u.g, u.d] w w') (hu : UAt w' u.g (some (u.d, u.r)) 3 d.st d.pn) : UsAt Z w' (a ++ u.turn d :: b) := by
  have hap := h.apart
  have hU := h.all u (by simp)
  rw [List.pairwise_append] at hap
  obtain ⟨p1, p2, p3⟩ := hap
  rw [List.pairwise_cons] at p2
  refine ⟨fun x hx => ?_, ?_⟩
  · rw [List.mem_append, List.mem_cons] at hx
    rcases hx with hx | rfl | hx
    · refine (h.all x (by simp [hx])).keep k (fun y hy => ?_)
      have := p3 x hx u (by simp)
      have h1 := hU.gz; have h2 := hU.dz
      simp at hy
      omega
    · exact ⟨hu, hU.gz, hU.dz, hU.rz, Nat.le_trans hU.top k.size, hU.low⟩
    · refine (h.all x (by simp [hx])).keep k (fun y hy => ?_)
      have := p2.1 x hx
      have h1 := hU.gz; have h2 := hU.dz
      simp at hy
      omega
  · rw [List.pairwise_append, List.pairwise_cons]
    exact ⟨p1, ⟨p2.1, p2.2⟩, fun x hx y hy => by
      rw [List.mem_cons] at hy
      rcases hy with rfl | hy
      · exact p3 x hx u (by simp)
      · exact p3 x hx y (by simp [hy])⟩
def ptrs (us : List UR) : List Value := us.map fun u => .pointer (some ⟨u.g, 0, none⟩)
theorem ptrs_turn (a b : List UR) (u : UR) (d : Did) : ptrs (a ++ u.turn d :: b) = ptrs (a ++ u :: b) := by simp [ptrs, UR.turn]

/-- An office: its source, its users. -/
structure OffAt (B0 Z : Nat) (w : World) (go g gp gm : Nat) (s : SS) (us : List UR) (uv : Value) : Prop where
  box : ∃ gi fa : Int, w.heap[go]? = some (.cells #[.pointer (some ⟨g, 0, none⟩), uv, .int .i64 gi, .int .i64 fa] 56 (0, 0))
  src : SAt w g gp gm s
  usr : UsAt Z w us
  row : w.ownsRow B0 57 1 uv us.length (ptrs us)
  zgo : B0 ≤ go ∧ go < Z
  zg : B0 ≤ g ∧ g < Z
  zgp : B0 ≤ gp ∧ gp < Z
  zgm : B0 ≤ gm ∧ gm < Z
  zz : Z ≤ w.heap.size
section
variable {B0 Z : Nat} {w w' : World} {go g gp gm : Nat} {s s' : SS} {us : List UR} {uv : Value}
theorem OffAt.below (h : OffAt B0 Z w go g gp gm s us uv) (b : Below w.heap.size w w') : OffAt B0 Z w' go g gp gm s us uv := by
  obtain ⟨gi, fa, hb⟩ := h.box
  exact ⟨⟨gi, fa, (b.block _ (lt_of_at hb)).trans hb⟩, h.src.below b, h.usr.keep (Only.of_below b []) (by simp), own_keep h.row (fun q hq => b.block q (own_lt h.row q hq)), h.zgo, h.zg, h.zgp, h.zgm, Nat.le_trans h.zz b.size⟩
/-- The source has turned. -/
theorem OffAt.heard (h : OffAt B0 Z w go g gp gm s us uv) (hs : SAt w' g gp gm s') (k : Only [gp, gm] w w') : OffAt B0 Z w' go g gp gm s' us uv := by
  obtain ⟨gi, fa, hb⟩ := h.box
  have n1 := h.src.not hb (by decide) (by decide)
  have h1 := h.zgp; have h2 := h.zgm
  refine ⟨⟨gi, fa, k.at hb (by simp at n1 ⊢; omega)⟩, hs, h.usr.keep k (by simp; omega), h.src.row h.row (by decide) (by decide) k, h.zgo, h.zg, h.zgp, h.zgm, Nat.le_trans h.zz k.size⟩
/-- A user has turned. -/
theorem OffAt.turn {a b : List UR} {u : UR} {d : Did} (h : OffAt B0 Z w go g gp gm s (a ++ u :: b) uv) (k : Only [u.g, u.d] w w') (hu : UAt w' u.g (some (u.d, u.r)) 3 d.st d.pn) : OffAt B0 Z w' go g gp gm s (a ++ u.turn d :: b) uv := by
  obtain ⟨gi, fa, hb⟩ := h.box
  have hU := h.usr.all u (by simp)
  have h1 := hU.gz; have h2 := hU.dz; have h3 := hU.low
  have h4 := h.zgo; have h5 := h.zg; have h6 := h.zgp; have h7 := h.zgm
  refine ⟨⟨gi, fa, k.at hb (by simp; omega)⟩, SrcAt.keep h.src k (by simp; omega) (by simp; omega) (by simp; omega), h.usr.turn k hu, ?_, h.zgo, h.zg, h.zgp, h.zgm, Nat.le_trans h.zz k.size⟩
  rw [ptrs_turn]
  have e : (a ++ u.turn d :: b).length = (a ++ u :: b).length := by simp
  rw [e]
  refine own_keep h.row (fun q hq => ?_)
  obtain ⟨cs, hcs⟩ := own_not h.row hq
  obtain ⟨A, c, a1, -⟩ := hU.at_.2.1.1
  refine k.block q (lt_of_at hcs) ?_
  have n1 := cells_ne hcs hU.at_.1 (by decide)
  have n2 := cells_ne hcs a1 (by decide)
  simp
  exact ⟨n1, n2⟩
/-- A row of effects has grown. -/
theorem OffAt.grown {v : Value} {n : Nat} {xs : List Value} {B : Nat} (h : OffAt B0 Z w go g gp gm s us uv) (ho : w.ownsRow B 105 5 v n xs) (hB : ∀ u ∈ us, u.hi ≤ B) (hg : w.grownBy w' v.ownBlock) : OffAt B0 Z w' go g gp gm s us uv := by
  obtain ⟨gi, fa, hb⟩ := h.box
  have hblk : ∀ q, q < w.heap.size → (∀ cs, w.heap[q]? ≠ some (.cells cs 105 (0, 0))) → w'.heap[q]? = w.heap[q]? := fun q hq hn => hg.block q hq (fun e => by
    obtain ⟨cs, hcs⟩ := own_not ho e.symm
    exact hn cs hcs)
  refine ⟨⟨gi, fa, (hblk go (lt_of_at hb) (fun cs hcs => cells_ne hcs hb (by decide) rfl)).trans hb⟩, h.src.grown ho (by decide) (by decide) hg, ?_, ?_, h.zgo, h.zg, h.zgp, h.zgm, Nat.le_trans h.zz hg.size⟩
  · refine ⟨fun u hu => ?_, h.usr.apart⟩
    have hk : Only v.ownBlock.toList w w' := ⟨hg.os, hg.tape, hg.output, hg.size, fun q hq hs => hg.block q hq (fun e => hs (by rw [← e]; simp))⟩
    refine (h.usr.all u hu).keep hk (fun x hx => ?_)
    rw [Option.mem_toList] at hx
    have := (ho.lt x hx).1
    have := hB u hu
    omega
  · refine own_keep h.row (fun q hq => ?_)
    obtain ⟨cs, hcs⟩ := own_not h.row hq
    exact hblk q (lt_of_at hcs) (fun cs' hcs' => cells_ne hcs' hcs (by decide) rfl)
/-- One is given. -/
theorem OffAt.given (h : OffAt B0 Z w go g gp gm s us uv) (x : Int) : OffAt B0 Z (w.setCell ⟨go, 2, none⟩ (.int .i64 x)) go g gp gm s us uv := by
  obtain ⟨gi, fa, hb⟩ := h.box
  have k : Only [go] w (w.setCell ⟨go, 2, none⟩ (.int .i64 x)) := (Only.refl _ _).setCell (Or.inl (by simp)) _
  have h4 := h.zgo; have h5 := h.zg; have h6 := h.zgp; have h7 := h.zgm
  have hn := h.src.not hb (by decide) (by decide)
  simp at hn
  refine ⟨⟨x, fa, ?_⟩, SrcAt.keep h.src k (by simp; omega) (by simp; omega) (by simp; omega), h.usr.keep k (by simp; omega), ?_, h.zgo, h.zg, h.zgp, h.zgm, Nat.le_trans h.zz k.size⟩
  · rw [at_set hb 2 _]; rfl
  · refine own_keep h.row (fun q hq => ?_)
    obtain ⟨cs, hcs⟩ := own_not h.row hq
    refine k.block q (lt_of_at hcs) ?_
    have := cells_ne hcs hb (by decide)
    simpa using this
end
end Go.Proofs.YtlfcfmdblmedcaaDoor.Mine
