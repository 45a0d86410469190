/- What is said, as relations; what the office's say keeps. -/
import Derived.Test.YtlfcfmdblmedcaaDoorOffB
namespace Go.Proofs.YtlfcfmdblmedcaaDoor.Mine
open Go.RowKit Go.Maps Go.Proofs.YtlfcfmdblmedcaaDoorW.PrintWords

def UR.told (u : UR) (t ri ai : Int) : Did := uMsg (some (u.d, u.r)) u.s u.p t ri ai
/-- A message comes to all users, one by one; what they say comes to the source. -/
inductive AllR (t ri ai : Int) : SS → List UR → List Ef → SS → List UR → Prop
  | nil {s : SS} : AllR t ri ai s [] [] s []
  | cons {s s1 s2 : SS} {u : UR} {us us' : List UR} {l1 l2 : List Ef} : HearR s (u.told t ri ai).efs l1 s1 → AllR t ri ai s1 us l2 s2 us' → AllR t ri ai s (u :: us) (l1 ++ l2) s2 (u.turn (u.told t ri ai) :: us')
/-- What a source says comes to all. -/
inductive RoundR : SS → List UR → List Ef → List Ef → SS → List UR → Prop
  | nil {s : SS} {us : List UR} : RoundR s us [] [] s us
  | send {s s1 s2 : SS} {us us1 us2 : List UR} {x : Ef} {r l1 l2 : List Ef} : x.kind = 0 → AllR x.type x.ri x.ai s us l1 s1 us1 → RoundR s1 us1 r l2 s2 us2 → RoundR s us (x :: r) (l1 ++ l2) s2 us2
  | other {s s2 : SS} {us us2 : List UR} {x : Ef} {r l : List Ef} : x.kind ≠ 0 → RoundR s us r l s2 us2 → RoundR s us (x :: r) l s2 us2
/-- Till nobody says anything. -/
inductive SaysR : SS → List UR → List Ef → SS → List UR → Nat → Prop
  | done {s s' : SS} {us us' : List UR} {l : List Ef} : RoundR s us l [] s' us' → SaysR s us l s' us' 1
  | more {s s1 s2 : SS} {us us1 us2 : List UR} {l next : List Ef} {k : Nat} : RoundR s us l next s1 us1 → next ≠ [] → next.length ≤ 100 → SaysR s1 us1 next s2 us2 k → SaysR s us l s2 us2 (k + 1)

theorem told_length (u : UR) (t ri ai : Int) : (u.told t ri ai).efs.length ≤ 2 := by
  unfold UR.told uMsg
  split
  · simp
  · split
    · simp
    · split
      · simp [uLose]
      · split <;> simp
theorem AllR.length {t ri ai : Int} {s s' : SS} {us us' : List UR} {l : List Ef} (h : AllR t ri ai s us l s' us') : us'.length = us.length := by
  induction h with
  | nil => rfl
  | cons _ _ ih => simp [ih]

structure SayI (B0 Z B1 Bl : Nat) (w : World) (go g gp gm : Nat) (uv lv : Value) (l : List Ef) (s : SS) (us : List UR) (nv : Value) (acc : List Ef) (wr : World) : Prop where
  off : OffAt B0 Z wr go g gp gm s us uv
  nrow : wr.ownsRow B1 105 5 nv acc.length (efCells acc)
  lrow : wr.ownsRow Bl 105 5 lv l.length (efCells l)
  lB : ∀ b, lv.ownBlock = some b → b < B1
  hi : ∀ u ∈ us, u.hi ≤ B1
  hB : B1 ≤ wr.heap.size
  hZ : B0 ≤ B1
  bel : Below B0 w wr
section
variable {B0 Z B1 Bl : Nat} {w wr w' : World} {go g gp gm : Nat} {uv lv nv : Value} {l acc : List Ef} {s s' : SS} {us : List UR}
theorem SayI.below (h : SayI B0 Z B1 Bl w go g gp gm uv lv l s us nv acc wr) (b : Below wr.heap.size wr w') : SayI B0 Z B1 Bl w go g gp gm uv lv l s us nv acc w' :=
  ⟨h.off.below b, own_keep h.nrow (fun q hq => b.block q (own_lt h.nrow q hq)), own_keep h.lrow (fun q hq => b.block q (own_lt h.lrow q hq)), h.lB, h.hi, Nat.le_trans h.hB b.size, h.hZ, h.bel.trans (b.mono (Nat.le_trans h.hZ h.hB))⟩
theorem SayI.heard (h : SayI B0 Z B1 Bl w go g gp gm uv lv l s us nv acc wr) (hs : SAt w' g gp gm s') (k : Only [gp, gm] wr w') : SayI B0 Z B1 Bl w go g gp gm uv lv l s' us nv acc w' :=
  ⟨h.off.heard hs k, h.off.src.row h.nrow (by decide) (by decide) k, h.off.src.row h.lrow (by decide) (by decide) k, h.lB, h.hi, Nat.le_trans h.hB k.size, h.hZ, h.bel.trans (k.below (Nat.le_trans h.hZ h.hB) (by have := h.off.zgp; have := h.off.zgm; simp; omega))⟩
theorem own_user {v : Value} {n k B : Nat} {e : TypeId} {xs : List Value} {u : UR} (hU : u.Ok Z wr) (ho : wr.ownsRow B e k v n xs) (h1 : e ≠ 113) (h2 : e ≠ 116) (hk : Only [u.g, u.d] wr w') : w'.ownsRow B e k v n xs :=
  own_keep ho (fun b hb => by
    obtain ⟨cs, hcs⟩ := own_not ho hb
    obtain ⟨A, c, a1, -⟩ := hU.at_.2.1.1
    have n1 := cells_ne hcs hU.at_.1 h1
    have n2 := cells_ne hcs a1 h2
    exact hk.block b (lt_of_at hcs) (by simp; exact ⟨n1, n2⟩))
theorem SayI.turn {a b : List UR} {u : UR} {d : Did} (h : SayI B0 Z B1 Bl w go g gp gm uv lv l s (a ++ u :: b) nv acc wr) (k : Only [u.g, u.d] wr w') (hu : UAt w' u.g (some (u.d, u.r)) 3 d.st d.pn) : SayI B0 Z B1 Bl w go g gp gm uv lv l s (a ++ u.turn d :: b) nv acc w' := by
  have hU := h.off.usr.all u (by simp)
  refine ⟨h.off.turn k hu, own_user hU h.nrow (by decide) (by decide) k, own_user hU h.lrow (by decide) (by decide) k, h.lB, fun x hx => ?_, Nat.le_trans h.hB k.size, h.hZ, h.bel.trans (k.below (Nat.le_trans h.hZ h.hB) ?_)⟩
  · rw [List.mem_append, List.mem_cons] at hx
    rcases hx with hx | rfl | hx
    · exact h.hi x (by simp [hx])
    · exact h.hi u (by simp)
    · exact h.hi x (by simp [hx])
  · have h1 := hU.gz; have h2 := hU.dz; have h3 := hU.low; have h4 := h.off.zgo
    simp
    omega
theorem SayI.grown {nv' : Value} {acc' : List Ef} (h : SayI B0 Z B1 Bl w go g gp gm uv lv l s us nv acc wr) (ho : w'.ownsRow B1 105 5 nv' acc'.length (efCells acc')) (hg : wr.grownBy w' nv.ownBlock) : SayI B0 Z B1 Bl w go g gp gm uv lv l s us nv' acc' w' := by
  refine ⟨h.off.grown h.nrow h.hi hg, ho, ?_, h.lB, h.hi, Nat.le_trans h.hB hg.size, h.hZ, ?_⟩
  · refine own_keep h.lrow (fun q hq => hg.block q (own_lt h.lrow q hq) (fun e => ?_))
    have h1 := h.lB q hq
    have h2 := (h.nrow.lt q e.symm).1
    omega
  · have hB0 := Nat.le_trans h.hZ h.hB
    refine ⟨hg.os.trans h.bel.os, hg.tape.trans h.bel.tape, hg.output.trans h.bel.output, Nat.le_trans h.bel.size hg.size, fun q hq => ?_⟩
    refine (hg.block q (Nat.lt_of_lt_of_le hq hB0) (fun e => ?_)).trans (h.bel.block q hq)
    have h2 := (h.nrow.lt q e.symm).1
    have h3 := h.hZ
    omega
theorem SayI.given (h : SayI B0 Z B1 Bl w go g gp gm uv lv l s us nv acc wr) (x : Int) : SayI B0 Z B1 Bl w go g gp gm uv lv l s us nv acc (wr.setCell ⟨go, 2, none⟩ (.int .i64 x)) := by
  obtain ⟨gi, fa, hb⟩ := h.off.box
  have hrow : ∀ {B n : Nat} {v : Value} {xs : List Value}, wr.ownsRow B 105 5 v n xs → (wr.setCell ⟨go, 2, none⟩ (.int .i64 x)).ownsRow B 105 5 v n xs := fun ho =>
    own_keep ho (fun q hq => Below.heap_setCell _ _ _ q (by
      obtain ⟨cs, hcs⟩ := own_not ho hq
      exact cells_ne hcs hb (by decide)))
  exact ⟨h.off.given x, hrow h.nrow, hrow h.lrow, h.lB, h.hi, by have := h.hB; simpa [World.setCell] using this, h.hZ, h.bel.setCell (by have := h.off.zgo; show B0 ≤ go; omega) _⟩
end
end Go.Proofs.YtlfcfmdblmedcaaDoor.Mine
