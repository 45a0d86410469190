/- What a side did comes to the pair (effects), for side 1 (written by wip/prc.py). -/
import Derived.Test.YtlfcfmdblmedcaaGreatDoorMPrC
namespace Go.Proofs.YtlfcfmdblmedcaaGreatDoor.Mine
open Go.RowKit Go.Maps Go.Proofs.YtlfcfmdblmedcaaGreatDoorW.PrintWords
section
variable {Z : Nat} {W0 : World} {X : List (Nat × Array Value)} {p : Nat} {a b : SG} {c : Nat} {nx : Int}
structure EffI_1 (Z : Nat) (W0 : World) (X : List (Nat × Array Value)) (p : Nat) (c : Nat) (nx : Int) (Bx : Nat) (v : Value) (outs : List XE) (fa fb : SG) (j : Nat) (wr : World) : Prop where
  le : j ≤ outs.length
  row : Tail wr Bx 98 11 v outs.length (rowOf XE.vals outs)
  at_ : ∃ a' b', PairAt Z W0 X p true a' b' (c + 2 * j) nx wr ∧ (outs.drop j).foldl effA a' = fa ∧ (outs.drop j).foldl effB b' = fb
set_option maxHeartbeats 8000000 in
set_option maxRecDepth 100000 in
theorem effects_1 {Bx : Nat} {v : Value} (outs : List XE) (w : World) (h : PairAt Z W0 X p true a b c nx w) (hr : Tail w Bx 98 11 v outs.length (rowOf XE.vals outs)) (hgd : ∀ x, x ∈ outs → Good x) (hl : outs.length ≤ 10) (hc : c ≤ 1000000000) :
    Calls Tryz.prog 18 #[.pointer (some ⟨p, 0, none⟩), .int .i64 1, v] w fun en w' => en = .returned (.tuple #[]) ∧ PairAt Z W0 X p true (outs.foldl effA a) (outs.foldl effB b) (c + 20) nx w' := by
  obtain ⟨sA, cp, hv, _⟩ := hr.slice
  subst hv
  obtain ⟨fa, hfa⟩ : ∃ fa, outs.foldl effA a = fa := ⟨_, rfl⟩
  obtain ⟨fb, hfb⟩ : ∃ fb, outs.foldl effB b = fb := ⟨_, rfl⟩
  have HI := Lib.hid (show EffI_1 Z W0 X p c nx Bx (.slice sA outs.length cp) outs fa fb 0 w from ⟨Nat.zero_le _, hr, a, b, h, hfa, hfb⟩)
  rw [hfa, hfb]
  have HGD := Lib.hid hgd
  clear h hr hfa hfb hgd
  go_enter Tryz.func18, Tryz.ntmps18
  go_wp2_with fail
  go_loopw [10] (fun i wr => ∃ j : Nat, i = .int .i64 j ∧ EffI_1 Z W0 X p c nx Bx (.slice sA outs.length cp) outs fa fb j wr) (fun i _ => outs.length - (intOf i).toNat)
  case atStart => exact ⟨0, rfl, HI.out⟩
  case round =>
    clear HI
    obtain ⟨j, rfl, hI⟩ := hrel
    have hj := hI.le
    by_cases hjl : j < outs.length
    · obtain ⟨x, hx⟩ : ∃ x, outs[j]? = some x := ⟨outs[j], List.getElem?_eq_getElem hjl⟩
      obtain ⟨g, off, rfl⟩ : ∃ g off, sA = some ⟨g, off, none⟩ := by
        rcases hI.row.2 with ⟨-, h0⟩ | ⟨g, o, cp', cur, h0, -⟩
        · omega
        · injection h0 with h0
          exact ⟨g, o, h0⟩
      have hdrop : outs.drop j = x :: outs.drop (j + 1) := by
        rw [List.drop_eq_getElem_cons hjl]
        rw [List.getElem?_eq_getElem hjl] at hx
        injection hx with hx
        rw [hx]
      have hgood := HGD.out x (List.mem_of_getElem? hx)
      obtain ⟨a', b', hP, hA, hB⟩ := hI.at_
      rw [hdrop] at hA hB
      simp only [List.foldl_cons] at hA hB
      obtain ⟨xk, xt, xc, xf, xp, xn, xr, xi, xd, xm⟩ := x
      have ev : ∀ i u, (XE.vals ⟨xk, xt, xc, xf, xp, xn, xr, xi, xd, xm⟩)[i]? = some u → i < 11 → wr.cell? ⟨g, off + j * 11 + i, none⟩ = some u := fun i u hu hi => by
        rw [Nat.add_assoc]
        exact hI.row.at (j * 11 + i) u ((rowOf_get XE.vals XE.len outs j i _ hx hi).trans hu)
      have e0 := ev 0 _ rfl (by decide)
      have e1 := ev 1 _ rfl (by decide)
      have e2 := ev 2 _ rfl (by decide)
      have e3 := ev 3 _ rfl (by decide)
      have e4 := ev 4 _ rfl (by decide)
      have e5 := ev 5 _ rfl (by decide)
      have e6 := ev 6 _ rfl (by decide)
      have e7 := ev 7 _ rfl (by decide)
      have e8 := ev 8 _ rfl (by decide)
      have e9 := ev 9 _ rfl (by decide)
      have e10 := ev 10 _ rfl (by decide)
      rw [Nat.add_zero] at e0
      obtain ⟨⟨Ae, Arb, Afl, Aq, Atov, Atkv, Atdv⟩, ⟨Be, Brb, Bfl, Bq, Btov, Btkv, Btdv⟩, er, hPI⟩ := hP
      obtain ⟨nk, xsk, hnk, htk⟩ := hPI.sa.tk
      obtain ⟨ysd, htd⟩ := hPI.sa.td
      obtain ⟨toA, toc, hto, _⟩ := hPI.sb.tr.slice
      obtain ⟨tkA, tkc, htkv, _⟩ := htk.slice
      obtain ⟨tdA, tdc, htdv, _⟩ := htd.slice
      dsimp only at hto htkv htdv htk htd
      subst hto htkv htdv
      have fewA := hPI.sa.few
      have fewB := hPI.sb.few
      have hp := hPI.box
      have hZ := hPI.hZ
      have plt := lt_of_at hp
      have pto := at_cell hp 2
      have fto := at_frozen hp 2
      have ptd := at_cell hp 7
      have ftd := at_frozen hp 7
      have ptk := at_cell hp 5
      have ftk := at_frozen hp 5
      have pup := at_cell hp 14
      have fup := at_frozen hp 14
      have per := at_cell hp 12
      have fer := at_frozen hp 12
      simp only [pairCells, List.getElem?_toArray, List.getElem?_cons_zero, List.getElem?_cons_succ] at pto ptd ptk pup per
      have HP := Lib.hid ((hPI.keep ((Below.refl _ wr).alloc (Nat.le_refl _) (.cells #[.int .i64 xk, .int .i64 0, .int .i64 xt, .bool xc, .int .i64 xf, .bool xp, .int .i64 xn, .int .i64 xr, .string xi, .string xd, .int .i64 xm] 98)) hZ))
      have HPW := Lib.hid hPI
      have HRW := Lib.hid hI.row
      have HR := Lib.hid (hI.row.keep (w' := wr.alloc (.cells #[.int .i64 xk, .int .i64 0, .int .i64 xt, .bool xc, .int .i64 xf, .bool xp, .int .i64 xn, .int .i64 xr, .string xi, .string xd, .int .i64 xm] 98)) (fun b hb => Below.heap_alloc _ _ _ (hI.row.lt b hb).2))
      have HA := Lib.hid hA
      have HB := Lib.hid hB
      have HTK := Lib.hid htk
      have HTD := Lib.hid htd
      clear hx hdrop ev hI hPI hA hB hp htk htd
      have hw1 : IntKind.i64.wrap 1 = 1 := rfl
      have hw0 : IntKind.i64.wrap 0 = 0 := rfl
      dsimp only [Good] at hgood
      rcases hgood with ⟨h1, h2⟩ | h1 | h1 | h1 | h1
      · subst h1 h2
        have HPd := Lib.hid (HP.out.keep (w' := (wr.alloc (.cells #[.int .i64 0, .int .i64 0, .int .i64 70, .bool xc, .int .i64 xf, .bool xp, .int .i64 xn, .int .i64 xr, .string xi, .string xd, .int .i64 xm] 98)).drew) ⟨rfl, rfl, rfl, Nat.le_refl _, fun _ _ => rfl⟩ (by simp; omega))
        go_wp2_with fail
        go_region_law (refine step_append_tail (W := (wr.alloc (.cells #[.int .i64 0, .int .i64 0, .int .i64 70, .bool xc, .int .i64 xf, .bool xp, .int .i64 xn, .int .i64 xr, .string xi, .string xd, .int .i64 xm] 98)).drew) Z rfl _ _ 39 66 _ 8 72 rfl Tryz.underlying39 infoFr rfl (by decide) (.slice toA b'.F.length toc) b'.F.length (rowOf FrV.vals b'.F) (FrV.vals ⟨xc, xf, xp, xn, xr, xi⟩) (by simp [Act.eval]) (by simp [Act.eval]) rfl (FrV.cell1 _) HPd.out.sb.tr (by simp; omega) (by omega) (by decide) ?_; intro v1 w1 ht hg hat; obtain ⟨A1, c1, rfl, _⟩ := ht.slice; have hb := HPd.out.boxG hg (fun x hx => Or.inr (Ad.mem_fp.2 (by simp [hx]))); have hq := hb.1.trans HPd.out.box; have d := at_cell hq 2; have fd := at_frozen hq 2; simp only [pairCells, List.getElem?_toArray, List.getElem?_cons_zero, List.getElem?_cons_succ] at d; have HP2 := Lib.hid (HPd.out.toB ht hg hat); have HR2 := Lib.hid ((HR.out.effs (w := (wr.alloc (.cells #[.int .i64 0, .int .i64 0, .int .i64 70, .bool xc, .int .i64 xf, .bool xp, .int .i64 xn, .int .i64 xr, .string xi, .string xd, .int .i64 xm] 98)).drew) HPd.out.sb.tr (by decide) hg).effp (i := 2) (u := .slice A1 (b'.F.length + 1) c1) hq); clear hb hq ht hg hat)
        all_goals (
          go_wp2
          go_roundw
          case rel => exact ⟨j + 1, by go_num, by omega, HR2.out, _, _, PairAt.more ⟨_, _, _, HP2.out⟩ (by omega), HA.out, HB.out⟩
          case measure => simp [intOf]; omega)
      · subst h1
        have HPd := Lib.hid (HP.out.keep (w' := (wr.alloc (.cells #[.int .i64 5, .int .i64 0, .int .i64 xt, .bool xc, .int .i64 xf, .bool xp, .int .i64 xn, .int .i64 xr, .string xi, .string xd, .int .i64 xm] 98)).drew) ⟨rfl, rfl, rfl, Nat.le_refl _, fun _ _ => rfl⟩ (by simp; omega))
        go_wp2_with fail
        go_region_law (refine step_append_tail (W := (wr.alloc (.cells #[.int .i64 5, .int .i64 0, .int .i64 xt, .bool xc, .int .i64 xf, .bool xp, .int .i64 xn, .int .i64 xr, .string xi, .string xd, .int .i64 xm] 98)).drew) Z rfl _ _ 43 9 _ 1 16 rfl Tryz.underlying43 infoStr rfl (by decide) (.slice tdA a'.nd tdc) a'.nd ysd [.string xd] (by simp [Act.eval]) (by simp [Act.eval]) rfl (by simp [Value.oneCell']) (HTD.out.keep (fun b hb => heap_alloc_old wr _ (HTD.out.lt b hb).2)) (by simp; omega) (by omega) (by decide) ?_; intro v1 w1 ht hg hat; obtain ⟨A1, c1, rfl, _⟩ := ht.slice; have hb := HPd.out.boxG hg (fun x hx => Or.inl (Ad.mem_fp.2 (by simp [hx]))); have hq := hb.1.trans HPd.out.box; have d := at_cell hq 7; have fd := at_frozen hq 7; simp only [pairCells, List.getElem?_toArray, List.getElem?_cons_zero, List.getElem?_cons_succ] at d; have HP2 := Lib.hid (HPd.out.tdA ht hg hat); have HR2 := Lib.hid ((HR.out.effs (w := (wr.alloc (.cells #[.int .i64 5, .int .i64 0, .int .i64 xt, .bool xc, .int .i64 xf, .bool xp, .int .i64 xn, .int .i64 xr, .string xi, .string xd, .int .i64 xm] 98)).drew) (HTD.out.keep (w' := (wr.alloc (.cells #[.int .i64 5, .int .i64 0, .int .i64 xt, .bool xc, .int .i64 xf, .bool xp, .int .i64 xn, .int .i64 xr, .string xi, .string xd, .int .i64 xm] 98)).drew) (fun b hb => heap_alloc_old wr _ (HTD.out.lt b hb).2)) (by decide) hg).effp (i := 7) (u := .slice A1 (a'.nd + 1) c1) hq); clear hb hq ht hg hat)
        all_goals (
          go_wp2
          go_roundw
          case rel => exact ⟨j + 1, by go_num, by omega, HR2.out, _, _, PairAt.more ⟨_, _, _, HP2.out⟩ (by omega), HA.out, HB.out⟩
          case measure => simp [intOf]; omega)
      · subst h1
        have HP2 := Lib.hid ((HPW.out.setEr (wrap64 (er + 1))).keep ((Below.refl _ _).alloc (Nat.le_refl _) (.cells #[.int .i64 7, .int .i64 0, .int .i64 xt, .bool xc, .int .i64 xf, .bool xp, .int .i64 xn, .int .i64 xr, .string xi, .string xd, .int .i64 xm] 98)) (by simpa [World.setCell] using hZ))
        have hr2 := HRW.out.effp (i := 12) (u := .int .i64 (wrap64 (er + 1))) HPW.out.box
        have HR2 := Lib.hid (hr2.keep (w' := (wr.setCell ⟨p, 12, none⟩ (.int .i64 (wrap64 (er + 1)))).alloc (.cells #[.int .i64 7, .int .i64 0, .int .i64 xt, .bool xc, .int .i64 xf, .bool xp, .int .i64 xn, .int .i64 xr, .string xi, .string xd, .int .i64 xm] 98)) (fun b hb => Below.heap_alloc _ _ _ (hr2.lt b hb).2))
        clear hr2
        go_wp2
        go_roundw
        case rel => exact ⟨j + 1, by go_num, by omega, HR2.out, _, _, PairAt.more ⟨_, _, _, HP2.out⟩ (by omega), HA.out, HB.out⟩
        case measure => simp [intOf]; omega
      · have hu : (a'.u : Int) ≤ 2000000000 := by omega
        have hs2 := HPW.out.setUp
        have hr2 := HRW.out.effp (i := 14) (u := .int .i64 ((a'.u : Int) + 1)) HPW.out.box
        have hZ2 : Z ≤ (wr.setCell ⟨p, 14, none⟩ (.int .i64 ((a'.u : Int) + 1))).heap.size := by simpa [World.setCell] using hZ
        rcases h1 with h1 | h1
        · subst h1
          have b2 := ((Below.refl _ (wr.setCell ⟨p, 14, none⟩ (.int .i64 ((a'.u : Int) + 1)))).alloc (Nat.le_refl _) (.cells #[.int .i64 1, .int .i64 0, .int .i64 xt, .bool xc, .int .i64 xf, .bool xp, .int .i64 xn, .int .i64 xr, .string xi, .string xd, .int .i64 xm] 98)).drew
          have hp3 := hs2.keep b2 hZ2
          have hr3 := hr2.keep (fun b hb => b2.block b (hr2.lt b hb).2)
          have HS2 := Lib.hid hs2
          have HRR2 := Lib.hid hr2
          clear hs2 hr2
          go_wp2_with fail
          go_region
          clear e0 e1 e2 e3 e4 e5 e6 e7 e8 e9 e10 pto ptd ptk pup per fto ftd ftk fup fer HTK HTD HPW HRW HP HR b2
          generalize ((wr.setCell ⟨p, 14, none⟩ (.int .i64 ((a'.u : Int) + 1))).alloc (.cells #[.int .i64 1, .int .i64 0, .int .i64 xt, .bool xc, .int .i64 xf, .bool xp, .int .i64 xn, .int .i64 xr, .string xi, .string xd, .int .i64 xm] 98)).drew = W1 at *
          obtain ⟨nk2, xsk2, hnk2, htk2⟩ := hp3.sa.tk
          obtain ⟨tkA2, tkc2, htkv2, _⟩ := htk2.slice
          dsimp only at htkv2 htk2
          injection htkv2 with q1 q2 q3
          subst q1 q2 q3
          have plt2 := lt_of_at hp3.box
          have ptk := at_cell hp3.box 5
          have ftk := at_frozen hp3.box 5
          simp only [pairCells, List.getElem?_toArray, List.getElem?_cons_zero, List.getElem?_cons_succ] at ptk
          have HP3 := Lib.hid (hp3.keep (w' := W1.drew) ⟨rfl, rfl, rfl, Nat.le_refl _, fun _ _ => rfl⟩ hp3.hZ)
          have HR3 := Lib.hid hr3
          have HTK := Lib.hid htk2
          have hZ3 := hp3.hZ
          clear hp3 hr3 htk2
          go_wp2_with fail
          go_region_law (refine step_append_tail (W := W1.drew) Z rfl _ _ 41 60 _ 2 24 rfl Tryz.underlying41 infoPe rfl (by decide) (.slice tkA nk tkc) nk xsk2 [.string ⟨#[]⟩, .bool false] (by simp [Act.eval]) (by simp [Act.eval]) rfl (by simp [Value.oneCell']) (HTK.out.keep (fun _ _ => rfl)) (by simpa using hZ3) (by omega) (by decide) ?_; intro v1 w1 ht hg hat; obtain ⟨A1, c1, rfl, _⟩ := ht.slice; have hb := HP3.out.boxG hg (fun x hx => Or.inl (Ad.mem_fp.2 (by simp [hx]))); have hq := hb.1.trans HP3.out.box; have d := at_cell hq 5; have fd := at_frozen hq 5; simp only [pairCells, List.getElem?_toArray, List.getElem?_cons_zero, List.getElem?_cons_succ] at d; have HP4 := Lib.hid (HP3.out.tkA (by omega) ht hg hat); have HR4 := Lib.hid (((HR3.out.keep (w' := W1.drew) (fun _ _ => rfl)).effs (w := W1.drew) (HTK.out.keep (fun _ _ => rfl)) (by decide) hg).effp (i := 5) (u := .slice A1 (nk + 1) c1) hq); clear hb hq ht hg hat)
          all_goals (
            go_wp2
            go_roundw
            case rel => exact ⟨j + 1, by go_num, by omega, HR4.out, _, _, PairAt.more ⟨_, _, _, HP4.out⟩ (by omega), HA.out, HB.out⟩
            case measure => simp [intOf]; omega)
        · subst h1
          have b2 := ((Below.refl _ (wr.setCell ⟨p, 14, none⟩ (.int .i64 ((a'.u : Int) + 1)))).alloc (Nat.le_refl _) (.cells #[.int .i64 2, .int .i64 0, .int .i64 xt, .bool xc, .int .i64 xf, .bool xp, .int .i64 xn, .int .i64 xr, .string xi, .string xd, .int .i64 xm] 98)).drew
          have hp3 := hs2.keep b2 hZ2
          have hr3 := hr2.keep (fun b hb => b2.block b (hr2.lt b hb).2)
          have HS2 := Lib.hid hs2
          have HRR2 := Lib.hid hr2
          clear hs2 hr2
          go_wp2_with fail
          go_region
          clear e0 e1 e2 e3 e4 e5 e6 e7 e8 e9 e10 pto ptd ptk pup per fto ftd ftk fup fer HTK HTD HPW HRW HP HR b2
          generalize ((wr.setCell ⟨p, 14, none⟩ (.int .i64 ((a'.u : Int) + 1))).alloc (.cells #[.int .i64 2, .int .i64 0, .int .i64 xt, .bool xc, .int .i64 xf, .bool xp, .int .i64 xn, .int .i64 xr, .string xi, .string xd, .int .i64 xm] 98)).drew = W1 at *
          obtain ⟨nk2, xsk2, hnk2, htk2⟩ := hp3.sa.tk
          obtain ⟨tkA2, tkc2, htkv2, _⟩ := htk2.slice
          dsimp only at htkv2 htk2
          injection htkv2 with q1 q2 q3
          subst q1 q2 q3
          have plt2 := lt_of_at hp3.box
          have ptk := at_cell hp3.box 5
          have ftk := at_frozen hp3.box 5
          simp only [pairCells, List.getElem?_toArray, List.getElem?_cons_zero, List.getElem?_cons_succ] at ptk
          have HP3 := Lib.hid (hp3.keep (w' := W1.drew) ⟨rfl, rfl, rfl, Nat.le_refl _, fun _ _ => rfl⟩ hp3.hZ)
          have HR3 := Lib.hid hr3
          have HTK := Lib.hid htk2
          have hZ3 := hp3.hZ
          clear hp3 hr3 htk2
          go_wp2_with fail
          go_region_law (refine step_append_tail (W := W1.drew) Z rfl _ _ 41 60 _ 2 24 rfl Tryz.underlying41 infoPe rfl (by decide) (.slice tkA nk tkc) nk xsk2 [.string ⟨#[]⟩, .bool false] (by simp [Act.eval]) (by simp [Act.eval]) rfl (by simp [Value.oneCell']) (HTK.out.keep (fun _ _ => rfl)) (by simpa using hZ3) (by omega) (by decide) ?_; intro v1 w1 ht hg hat; obtain ⟨A1, c1, rfl, _⟩ := ht.slice; have hb := HP3.out.boxG hg (fun x hx => Or.inl (Ad.mem_fp.2 (by simp [hx]))); have hq := hb.1.trans HP3.out.box; have d := at_cell hq 5; have fd := at_frozen hq 5; simp only [pairCells, List.getElem?_toArray, List.getElem?_cons_zero, List.getElem?_cons_succ] at d; have HP4 := Lib.hid (HP3.out.tkA (by omega) ht hg hat); have HR4 := Lib.hid (((HR3.out.keep (w' := W1.drew) (fun _ _ => rfl)).effs (w := W1.drew) (HTK.out.keep (fun _ _ => rfl)) (by decide) hg).effp (i := 5) (u := .slice A1 (nk + 1) c1) hq); clear hb hq ht hg hat)
          all_goals (
            go_wp2
            go_roundw
            case rel => exact ⟨j + 1, by go_num, by omega, HR4.out, _, _, PairAt.more ⟨_, _, _, HP4.out⟩ (by omega), HA.out, HB.out⟩
            case measure => simp [intOf]; omega)
      · rcases h1 with h1 | h1
        all_goals (
          subst h1
          go_wp2
          go_roundw
          case rel => exact ⟨j + 1, by go_num, by omega, HR.out, _, _, PairAt.more ⟨_, _, _, HP.out⟩ (by omega), HA.out, HB.out⟩
          case measure => simp [intOf]; omega)
    · obtain rfl : j = outs.length := by omega
      obtain ⟨a', b', hP, hA, hB⟩ := hI.at_
      rw [List.drop_length] at hA hB
      simp only [List.foldl_nil] at hA hB
      subst hA hB
      have HP := Lib.hid (hP.more (c' := c + 20) (by omega))
      clear hP hI
      go_wp2
      go_end0
      exact ⟨rfl, HP.out⟩
end
end Go.Proofs.YtlfcfmdblmedcaaGreatDoor.Mine
