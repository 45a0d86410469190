/- TopShared: a user more in the office. -/
import Derived.Test.YtlfcfmdblmedcaaDoorShB
namespace Go.Proofs.YtlfcfmdblmedcaaDoor.Mine
open Go.RowKit Go.Maps Go.Proofs.YtlfcfmdblmedcaaDoorW.PrintWords

theorem reads_list (w : World) (xs : List Int) (hl : xs.length ≤ 1000) : ReadsInt (w.alloc (.cells (nums .i64 xs).toArray 3)) .i64 (some ⟨w.heap.size, 0, none⟩) xs.length xs := by
  refine ⟨rfl, by omega, fun _ => ⟨_, rfl, fun j hj => ?_⟩⟩
  rw [efc_add, at_cell (at_new w _) j]
  simp [nums, List.getElem?_eq_getElem hj, List.getD_eq_getElem?_getD]
theorem infoPU : (Tryd.prog.info? 57).map (fun i => (i.zero, i.size, i.bytes)) = some (some (.pointer none), 1, 8) := by kernel_rfl
/-- append(users, u), by its run. -/
theorem append_ptr {w : World} {B n : Nat} {v x : Value} {xs : List Value} (ty : TypeId) (h : w.ownsRow B 57 1 v n xs) (hx : x.oneCell' = true) (hB : B ≤ w.heap.size) (hn : n ≤ 1000) :
    ∃ v1 w1, (Builtin.append_ #[54, 54] ty #[v, .slice (some ⟨w.heap.size, 0, none⟩) 1 1]).run Tryd.prog (w.alloc (.cells #[x] 57)) = .ok v1 w1 ∧ w1.ownsRow B 57 1 v1 (n + 1) (xs ++ [x]) ∧ (w.alloc (.cells #[x] 57)).grownBy w1 v.ownBlock ∧ (v1.ownBlock = v.ownBlock ∨ v1.ownBlock = some (w.heap.size + 1)) := by
  obtain ⟨i0, hi, hzz⟩ := Option.map_eq_some_iff.1 infoPU
  simp only [Prod.mk.injEq] at hzz
  obtain ⟨hz0, hz1, hz2⟩ := hzz
  have hcells : ∀ j u, [x][j]? = some u → (w.alloc (.cells #[x] 57)).cell? ((⟨w.heap.size, 0, none⟩ : Addr).add j) = some u := by
    intro j u hu
    rw [efc_add, at_cell (at_new w _) j]
    simpa using hu
  obtain ⟨v1, w1, hr, a2, a3, -, a5⟩ := run_append_own_at (P := Tryd.prog) (w.alloc (.cells #[x] 57)) B 54 ty 57 i0 _ 1 8 Tryd.underlying54 hi hz0 hz1 hz2 rfl (by decide) v n xs (h.alloc _) ⟨w.heap.size, 0, none⟩ 1 1 [x] rfl hcells (by simpa using hx) (by unfold maxLen; omega) (by omega) (by simp; omega)
  exact ⟨v1, w1, hr, a2, a3, by simpa using a5⟩

/-- A user more. -/
theorem OffAt.add {B0 Z : Nat} {w w3 w5 : World} {go g gp gm ug d r : Nat} {s : SS} {us : List UR} {uv uv1 : Value} {st : US} {p : Pn} {o : Obj} (h : OffAt B0 Z w go g gp gm s us uv) (b : Below w.heap.size w w3) (hu : UAt w3 ug (some (d, r)) 3 st p)
    (h1 : w.heap.size ≤ ug ∧ ug < w3.heap.size) (h2 : w.heap.size ≤ d ∧ d < w3.heap.size) (h3 : w.heap.size ≤ r ∧ r < w3.heap.size)
    (hrow : w5.ownsRow B0 57 1 uv1 (us.length + 1) (ptrs us ++ [.pointer (some ⟨ug, 0, none⟩)])) (hg : (w3.alloc o).grownBy w5 uv.ownBlock) (hr0 : ∀ x ∈ us, uv.ownBlock ≠ some x.r) :
    OffAt B0 Z (w5.setCell ⟨go, 1, none⟩ uv1) go g gp gm s (us ++ [⟨ug, d, r, w.heap.size, w3.heap.size, st, p⟩]) uv1 := by
  have b4 := b.alloc b.size o
  have h4 := h.below b4
  have hu4 := hu.below ((Below.refl _ _).alloc (Nat.le_refl _) o)
  obtain ⟨gi, fa, hb⟩ := h4.box
  have hsz := b.size
  have hblk : ∀ q, q < (w3.alloc o).heap.size → (∀ cs, (w3.alloc o).heap[q]? ≠ some (.cells cs 57 (0, 0))) → w5.heap[q]? = (w3.alloc o).heap[q]? := fun q hq hn => hg.block q hq (fun e => by
    obtain ⟨cs, hcs⟩ := own_not h4.row e.symm
    exact hn cs hcs)
  have hk5 : Only uv.ownBlock.toList (w3.alloc o) w5 := ⟨hg.os, hg.tape, hg.output, hg.size, fun q hq hs => hg.block q hq (fun e => hs (by rw [← e]; simp))⟩
  have hown : ∀ q ∈ uv.ownBlock.toList, q < w.heap.size := fun q hq => own_lt h.row q (by simpa using hq)
  have hown2 : ∀ q ∈ uv.ownBlock.toList, ∃ cs, (w3.alloc o).heap[q]? = some (.cells cs 57 (0, 0)) := fun q hq => own_not h4.row (by simpa using hq)
  have hb5 : w5.heap[go]? = _ := (hblk go (lt_of_at hb) (fun cs hcs => cells_ne hcs hb (by decide) rfl)).trans hb
  have k6 : Only [go] w5 (w5.setCell ⟨go, 1, none⟩ uv1) := (Only.refl _ _).setCell (Or.inl (by simp)) _
  have z1 := h.zgo; have z2 := h.zg; have z3 := h.zgp; have z4 := h.zgm; have z5 := h.zz
  have hs5 : SAt w5 g gp gm s := SrcAt.keep h4.src hk5 (fun hm => by
      obtain ⟨cs, hcs⟩ := hown2 _ hm
      exact h4.src.not hcs (by decide) (by decide) (by simp)) (fun hm => by
      obtain ⟨cs, hcs⟩ := hown2 _ hm
      exact h4.src.not hcs (by decide) (by decide) (by simp)) (fun hm => by
      obtain ⟨cs, hcs⟩ := hown2 _ hm
      exact h4.src.not hcs (by decide) (by decide) (by simp))
  have hn := hs5.not hb5 (by decide) (by decide)
  simp at hn
  have hw5 : w3.heap.size < w5.heap.size := Nat.lt_of_lt_of_le (by simp) hg.size
  refine ⟨⟨gi, fa, ?_⟩, SrcAt.keep hs5 k6 (by simp; omega) (by simp; omega) (by simp; omega), ⟨fun x hx => ?_, ?_⟩, ?_, z1, z2, z3, z4, by have := k6.size; omega⟩
  · rw [at_set hb5 1 _]; rfl
  · rw [List.mem_append] at hx
    rcases hx with hx | hx
    · have hX := h.usr.all x hx
      have hX4 := h4.usr.all x hx
      -- the users' row is no user's block
      have hX5 : x.Ok Z w5 := by
        have n1 : x.g ∉ uv.ownBlock.toList := fun hm => by
          obtain ⟨cs, hcs⟩ := hown2 _ hm
          exact cells_ne hcs hX4.at_.1 (by decide) rfl
        obtain ⟨A, c, a1, -⟩ := hX4.at_.2.1.1
        have n2 : x.d ∉ uv.ownBlock.toList := fun hm => by
          obtain ⟨cs, hcs⟩ := hown2 _ hm
          exact cells_ne hcs a1 (by decide) rfl
        refine ⟨?_, hX4.gz, hX4.dz, hX4.rz, Nat.le_trans hX4.top hg.size, hX4.low⟩
        refine ⟨hk5.at hX4.at_.1 n1, ?_, hX4.at_.2.2⟩
        obtain ⟨⟨A, c, a1, a2, a3, a4⟩, q2, q3⟩ := hX4.at_.2.1
        refine ⟨⟨A, c, hk5.at a1 n2, a2, a3, a4.imp id ?_⟩, q2, q3⟩
        rintro ⟨b1, off, hA, hr⟩
        refine ⟨b1, off, hA, hr.keep (fun hl => ?_)⟩
        by_cases hm : x.r ∈ uv.ownBlock.toList
        · exact absurd (by simpa using hm) (hr0 x hx)
        · exact hk5.block _ hl hm
      exact hX5.keep k6 (by have := hX.low; simp; omega)
    · simp at hx
      subst hx
      have hU5 := hu4.away hk5 (fun hm => by have := hown _ hm; omega) (fun hm => by have := hown _ hm; omega) (fun hm => by have := hown _ hm; omega)
      refine ⟨hU5.away k6 (by simp; omega) (by simp; omega) (by simp; omega), h1, h2, h3, by have := k6.size; show w3.heap.size ≤ _; omega, by show Z ≤ w.heap.size; omega⟩
  · rw [List.pairwise_append]
    refine ⟨h.usr.apart, by simp, fun a ha y hy => ?_⟩
    simp at hy
    subst hy
    exact (h.usr.all a ha).top
  · rw [List.length_append]
    have e : ptrs (us ++ [⟨ug, d, r, w.heap.size, w3.heap.size, st, p⟩]) = ptrs us ++ [.pointer (some ⟨ug, 0, none⟩)] := by simp [ptrs]
    rw [e]
    refine own_keep hrow (fun q hq => Below.heap_setCell _ _ _ q ?_)
    obtain ⟨cs, hcs⟩ := own_not hrow hq
    exact cells_ne hcs hb5 (by decide)
end Go.Proofs.YtlfcfmdblmedcaaDoor.Mine
