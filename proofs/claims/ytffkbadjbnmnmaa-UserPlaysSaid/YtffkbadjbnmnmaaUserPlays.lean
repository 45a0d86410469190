/- UserPlays's walk. -/
import Derived.Test.YtffkbadjbnmnmaaUserAct
import Derived.Deep.RegionWith
namespace Go.Proofs.Ytffkbadjbnmnmaa.Mine
open Go.RowKit Go.Proofs.YtffkbadjbnmnmaaW.PrintWords

def PlaysInv (w : World) (gU d1 r1 g2 d2 : Nat) (most : Int) (q : Nat) (i : Value) (wr : World) : Prop :=
  ∃ (k : Nat) (s : US) (st : Int), i = .int .i64 k ∧ k ≤ q ∧ Both wr gU d1 r1 g2 d2 most s st ∧ Below w.heap.size w wr

theorem both_cells {W : World} {gU d1 r1 g2 d2 : Nat} {most : Int} {s : US} {st : Int} (h : Both W gU d1 r1 g2 d2 most s st) :
    W.cell? ⟨g2, 1, none⟩ = some (.int .i64 s.tei) ∧ W.cell? ⟨g2, 2, none⟩ = some (.bool s.asking) ∧ W.cell? ⟨g2, 3, none⟩ = some (.int .i64 s.ri) ∧ W.cell? ⟨g2, 4, none⟩ = some (.int .i64 s.tries) := by
  obtain ⟨-, ⟨v, h2⟩, -⟩ := h
  obtain ⟨-, c1, c2, c3, c4, -, -⟩ := h2.cells
  exact ⟨c1, c2, c3, c4⟩

attribute [local go_sem] max_int min_int max_of_two min_of_two
set_option maxHeartbeats 2000000 in
set_option maxRecDepth 100000 in
theorem uplays_any {A : Option Addr} {c : Nat} {l : List AV} (n202 seed : Int) (w : World) (hR : ReadsUActs w A l) (hc : l.length ≤ c) (hn : l.length ≤ 9223372036854775807) :
    Calls Try.prog 6 #[.int .i64 n202, .int .u64 seed, .slice A l.length c] w fun e w' => e = .returned (.bool true) ∧ Below w.heap.size w w' := by
  obtain ⟨n, hnl⟩ : ∃ n, l.length = n := ⟨_, rfl⟩
  rw [hnl] at hc hn ⊢
  obtain ⟨q, hq, hqn, hq100⟩ := cut_at n 100 (by decide)
  have hq8 : q ≤ 100 := by omega
  clear hq100
  have hqc : q ≤ c := by omega
  obtain ⟨most, hmost⟩ : ∃ most, max 1 (min n202 32) = most := ⟨_, rfl⟩
  have HM := Lib.hid hmost
  clear hmost
  go_enter Try.func6, Try.ntmps6
  go_wp2_with fail
  refine (drawNew_any seed _ (reads_none _) (by decide)).mono ?_
  rintro e w1 ⟨d1, r1, rfl, hd, hr, hr2, hs, b1⟩
  have hs1 := src_sr (p := ([], seed)) hs hr2
  clear hs
  go_wp2_with fail
  refine (new_any (D := some (d1, r1)) (p := ([], seed)) n202 _ hs1).mono ?_
  rw [HM.out]
  rintro e w2 ⟨rfl, h2, b2⟩
  have hg := b1.size
  have hdl : d1 < w2.heap.size := h2.2.1.all_lt d1 (by simp [dset])
  have B2 := b1.trans (b2.mono b1.size)
  generalize w1.heap.size = gU at h2 hg b2
  clear b1 hs1 b2 hr hr2
  have hgl := h2.lt
  have H2 := Lib.hid h2
  have HB2 := Lib.hid B2
  clear h2 B2
  go_wp2_with fail
  refine (rnew_any (A := none) (n := 0) (c := 0) (xs := []) seed _ (reads_none _) (by decide)).mono ?_
  rintro e w3 ⟨d2, r2, rfl, hd2, hr3, hr4, hs, b3⟩
  have hs3 : RSrc w3 d2 d2 [] 0 seed := by
    obtain ⟨A, c, a1, a2, a3, a4, a5⟩ := hs
    exact ⟨A, c, a1, a2, a3, a4, Or.inl rfl⟩
  have h3 := H2.out.below b3
  have B3 := HB2.out.trans (b3.mono HB2.out.size)
  have hd2l : d2 < w3.heap.size := by obtain ⟨A, c, a1, -⟩ := hs3; exact lt_of_at a1
  have hz3 := b3.size
  have hw2 := HB2.out.size
  clear hs b3 hr3 hr4
  have HS3 := Lib.hid hs3
  have H3 := Lib.hid h3
  have HB3 := Lib.hid B3
  clear hs3 h3 B3
  go_wp2_with fail
  refine (rnewu_any n202 _ HS3.out).mono ?_
  rw [HM.out]
  rintro e w4 ⟨rfl, h4, b4⟩
  have hB : Both w4 gU d1 r1 w3.heap.size d2 most uIdle seed := ⟨H3.out.below b4, ⟨_, h4⟩, still_idle, by omega, by omega, by omega, by omega⟩
  have B4 := HB3.out.trans (b4.mono HB3.out.size)
  have hg2 := HB3.out.size
  have hS : ∀ x ∈ [gU, d1, w3.heap.size, d2], w.heap.size ≤ x := by
    intro x hx
    simp at hx
    rcases hx with rfl | rfl | rfl | rfl <;> omega
  generalize w3.heap.size = g2 at hB hS hg2 hz3 hd2l h4
  clear h4 b4 H2 HB2 HS3 H3 HB3 hz3 hd2l hd2 hdl hgl hw2
  have HB := Lib.hid hB
  have HB4 := Lib.hid B4
  clear hB B4
  go_wp2_with fail
  refine (wakes_any _).mono ?_
  rintro e w5 ⟨rfl, b5⟩
  have h5 := HB.out.below b5
  have B5 := HB4.out.trans (b5.mono HB4.out.size)
  clear b5 HB HB4
  have HS := Lib.hid hS
  have HR := Lib.hid hR
  have HQ := Lib.hid hq
  clear hS hR
  go_wp2_with fail
  clear hq
  go_loopw [27] (fun i wr => PlaysInv w gU d1 r1 g2 d2 most q i wr) (fun i _ => q - (intOf i).toNat)
  case atStart => exact ⟨0, _, _, rfl, Nat.zero_le _, h5, B5⟩
  case round =>
    clear h5 B5
    obtain ⟨k, s, st, rfl, hk, hB, hb⟩ := hrel
    by_cases hlt : k < q
    · obtain ⟨ad, rfl, hcell⟩ := HR.out (by omega)
      have ha := hcell k (by omega)
      obtain ⟨⟨x0, t1, r0, a1, own1, mine1⟩, hx⟩ : ∃ x, l.getD k default = x := ⟨_, rfl⟩
      rw [hx] at ha
      obtain ⟨e0, e1, e2, e3, e4, e5⟩ := ha.later hb
      simp only at e0 e1 e2 e3 e4 e5
      clear hx hcell ha
      have hBa := hB.below ((Below.refl _ wr).alloc (Nat.le_refl _) (.cells #[.int .i64 x0, .int .i64 t1, .int .i64 r0, .int .i64 a1, .bool own1, .bool mine1] 49))
      have hba := hb.alloc hb.size (.cells #[.int .i64 x0, .int .i64 t1, .int .i64 r0, .int .i64 a1, .bool own1, .bool mine1] 49)
      have HBa := Lib.hid hBa
      have HBb := Lib.hid hba
      clear hB hb hBa hba
      go_upto_region 7 with (fail)
      clear e0 e1 e2 e3 e4 e5
      go_cut [57] (fun b wc => b = .bool false ∧ PlaysInv w gU d1 r1 g2 d2 most q (.int .i64 ((k : Int) + 1)) wc)
      case first =>
        go_wp2_with fail
        refine wp_region_any (by kernel_rfl) ?_
        change wpAny _ _ _ _ _ _ _ (World.drew _)
        refine wpAny_take (i := 0) (v := ?v0) rfl (by kernel_rfl) (by kernel_rfl) (by kernel_rfl) (fun _ _ _ h => h) (Or.inl ⟨by rfl, ?hy0⟩) ?rest0
        case hy0 => (intro w; go_simp; (try with_reducible rfl))
        try simp only [Act.put, List.setIfInBounds_toArray, List.set_cons_zero, List.set_cons_succ, List.getElem_toArray, List.getElem_cons_zero]
        refine wpAny_take (i := 1) (v := ?v1) rfl (by kernel_rfl) (by kernel_rfl) (by kernel_rfl) (fun _ _ _ h => h) (Or.inl ⟨by rfl, ?hy1⟩) ?rest1
        case hy1 => (intro w; go_simp; (try with_reducible rfl))
        try simp only [Act.put, List.setIfInBounds_toArray, List.set_cons_zero, List.set_cons_succ, List.getElem_toArray, List.getElem_cons_zero, List.getElem_cons_succ]
        refine wpAny_ready (rs := [2]) (by kernel_rfl) (by simp) ?_
        refine AllReady.cons rfl (fun K hK => ?_) AllReady.nil
        go_simp
        refine hK _ _ ?_
        clear hK K
        try simp only [Act.put, List.setIfInBounds_toArray, List.set_cons_zero, List.set_cons_succ, List.getElem_toArray, List.getElem_cons_zero, List.getElem_cons_succ]
        refine wpAny_ready (rs := [3]) (by kernel_rfl) (by simp) ?_
        refine AllReady.cons rfl (fun K hK => ?_) AllReady.nil
        go_simp
        refine (act_any ⟨x0, t1, r0, a1, own1, mine1⟩ _ (HBa.out.below (Below.refl _ _).drew)).mono ?_
        rintro e wa ⟨rfl, ⟨tei, asking, ri, tries⟩, st', hBc, kc⟩
        obtain ⟨c1, c2, c3, c4⟩ := both_cells hBc
        have HBc := Lib.hid hBc
        have HKc := Lib.hid kc
        clear hBc kc
        refine hK _ _ ?_
        clear hK K
        try simp only [Act.put, List.setIfInBounds_toArray, List.set_cons_zero, List.set_cons_succ, List.getElem_toArray, List.getElem_cons_zero, List.getElem_cons_succ]
        refine wpAny_take (i := 4) (v := ?v4) rfl (by kernel_rfl) (by kernel_rfl) (by kernel_rfl) (fun _ _ _ h => h) (Or.inl ⟨by rfl, ?hy4⟩) ?rest4
        case hy4 => (intro w; go_simp; (try with_reducible rfl))
        try simp only [Act.put, List.setIfInBounds_toArray, List.set_cons_zero, List.set_cons_succ, List.getElem_toArray, List.getElem_cons_zero, List.getElem_cons_succ]
        refine wpAny_take (i := 5) (v := ?v5) rfl (by kernel_rfl) (by kernel_rfl) (by kernel_rfl) (fun _ _ _ h => h) (Or.inl ⟨by rfl, ?hy5⟩) ?rest5
        case hy5 => (intro w; go_simp; (try with_reducible rfl))
        try simp only [Act.put, List.setIfInBounds_toArray, List.set_cons_zero, List.set_cons_succ, List.getElem_toArray, List.getElem_cons_zero, List.getElem_cons_succ]
        have hHeld : (fun w' : World => w'.cell? ⟨g2, 1, none⟩ = some (.int .i64 tei) ∧ w'.cell? ⟨g2, 2, none⟩ = some (.bool asking) ∧ w'.cell? ⟨g2, 3, none⟩ = some (.int .i64 ri) ∧ w'.cell? ⟨g2, 4, none⟩ = some (.int .i64 tries)) wa := ⟨c1, c2, c3, c4⟩
        refine wpAny_of_held (S := (fun w' : World => w'.cell? ⟨g2, 1, none⟩ = some (.int .i64 tei) ∧ w'.cell? ⟨g2, 2, none⟩ = some (.bool asking) ∧ w'.cell? ⟨g2, 3, none⟩ = some (.int .i64 ri) ∧ w'.cell? ⟨g2, 4, none⟩ = some (.int .i64 tries))) _ _ _ _ ?_
        refine wpAnyH_take (i := 6) (v := ?v6) rfl (by kernel_rfl) (by kernel_rfl) (by kernel_rfl) (fun _ _ _ h => h) (Or.inl ⟨by rfl, ?hy6⟩) (by assumption) ?rest6
        case hy6 => (intro w hSw; (try dsimp only at hSw); go_simp; (try with_reducible rfl))
        try simp only [Act.put, List.setIfInBounds_toArray, List.set_cons_zero, List.set_cons_succ, List.getElem_toArray, List.getElem_cons_zero, List.getElem_cons_succ]
        refine wpAnyH_take (i := 8) (v := ?v8) rfl (by kernel_rfl) (by kernel_rfl) (by kernel_rfl) (fun _ _ _ h => h) (Or.inl ⟨by rfl, ?hy8⟩) (by assumption) ?rest8
        case hy8 => (intro w hSw; (try dsimp only at hSw); go_simp; (try with_reducible rfl))
        try simp only [Act.put, List.setIfInBounds_toArray, List.set_cons_zero, List.set_cons_succ, List.getElem_toArray, List.getElem_cons_zero, List.getElem_cons_succ]
        refine wpAnyH_take (i := 9) (v := ?v9) rfl (by kernel_rfl) (by kernel_rfl) (by kernel_rfl) (fun _ _ _ h => h) (Or.inl ⟨by rfl, ?hy9⟩) (by assumption) ?rest9
        case hy9 => (intro w hSw; (try dsimp only at hSw); go_simp; (try with_reducible rfl))
        try simp only [Act.put, List.setIfInBounds_toArray, List.set_cons_zero, List.set_cons_succ, List.getElem_toArray, List.getElem_cons_zero, List.getElem_cons_succ]
        refine wpAnyH_take (i := 10) (v := ?v10) rfl (by kernel_rfl) (by kernel_rfl) (by kernel_rfl) (fun _ _ _ h => h) (Or.inl ⟨by rfl, ?hy10⟩) (by assumption) ?rest10
        case hy10 => (intro w hSw; (try dsimp only at hSw); go_simp; (try with_reducible rfl))
        try simp only [Act.put, List.setIfInBounds_toArray, List.set_cons_zero, List.set_cons_succ, List.getElem_toArray, List.getElem_cons_zero, List.getElem_cons_succ]
        refine wpAnyH_take (i := 11) (v := ?v11) rfl (by kernel_rfl) (by kernel_rfl) (by kernel_rfl) (fun _ _ _ h => h) (Or.inl ⟨by rfl, ?hy11⟩) (by assumption) ?rest11
        case hy11 => (intro w hSw; (try dsimp only at hSw); go_simp; (try with_reducible rfl))
        try simp only [Act.put, List.setIfInBounds_toArray, List.set_cons_zero, List.set_cons_succ, List.getElem_toArray, List.getElem_cons_zero, List.getElem_cons_succ]
        refine wpAnyH_take (i := 12) (v := ?v12) rfl (by kernel_rfl) (by kernel_rfl) (by kernel_rfl) (fun _ _ _ h => h) (Or.inl ⟨by rfl, ?hy12⟩) (by assumption) ?rest12
        case hy12 => (intro w hSw; (try dsimp only at hSw); go_simp; (try with_reducible rfl))
        try simp only [Act.put, List.setIfInBounds_toArray, List.set_cons_zero, List.set_cons_succ, List.getElem_toArray, List.getElem_cons_zero, List.getElem_cons_succ]
        refine wpAnyH_take (i := 13) (v := ?v13) rfl (by kernel_rfl) (by kernel_rfl) (by kernel_rfl) (fun _ _ _ h => h) (Or.inl ⟨by rfl, ?hy13⟩) (by assumption) ?rest13
        case hy13 => (intro w hSw; (try dsimp only at hSw); go_simp; (try with_reducible rfl))
        try simp only [Act.put, List.setIfInBounds_toArray, List.set_cons_zero, List.set_cons_succ, List.getElem_toArray, List.getElem_cons_zero, List.getElem_cons_succ]
        refine wpAnyH_take (i := 14) (v := ?v14) rfl (by kernel_rfl) (by kernel_rfl) (by kernel_rfl) (fun _ _ _ h => h) (Or.inl ⟨by rfl, ?hy14⟩) (by assumption) ?rest14
        case hy14 => (intro w hSw; (try dsimp only at hSw); go_simp; (try with_reducible rfl))
        try simp only [Act.put, List.setIfInBounds_toArray, List.set_cons_zero, List.set_cons_succ, List.getElem_toArray, List.getElem_cons_zero, List.getElem_cons_succ]
        refine wpAnyH_take (i := 15) (v := ?v15) rfl (by kernel_rfl) (by kernel_rfl) (by kernel_rfl) (fun _ _ _ h => h) (Or.inl ⟨by rfl, ?hy15⟩) (by assumption) ?rest15
        case hy15 => (intro w hSw; (try dsimp only at hSw); go_simp; (try with_reducible rfl))
        try simp only [Act.put, List.setIfInBounds_toArray, List.set_cons_zero, List.set_cons_succ, List.getElem_toArray, List.getElem_cons_zero, List.getElem_cons_succ]
        refine wpAnyH_take (i := 16) (v := ?v16) rfl (by kernel_rfl) (by kernel_rfl) (by kernel_rfl) (fun _ _ _ h => h) (Or.inl ⟨by rfl, ?hy16⟩) (by assumption) ?rest16
        case hy16 => (intro w hSw; (try dsimp only at hSw); go_simp; (try with_reducible rfl))
        try simp only [Act.put, List.setIfInBounds_toArray, List.set_cons_zero, List.set_cons_succ, List.getElem_toArray, List.getElem_cons_zero, List.getElem_cons_succ]
        refine wpAnyH_take (i := 17) (v := ?v17) rfl (by kernel_rfl) (by kernel_rfl) (by kernel_rfl) (fun _ _ _ h => h) (Or.inl ⟨by rfl, ?hy17⟩) (by assumption) ?rest17
        case hy17 => (intro w hSw; (try dsimp only at hSw); go_simp; (try with_reducible rfl))
        try simp only [Act.put, List.setIfInBounds_toArray, List.set_cons_zero, List.set_cons_succ, List.getElem_toArray, List.getElem_cons_zero, List.getElem_cons_succ]
        refine wpAnyH_take (i := 18) (v := ?v18) rfl (by kernel_rfl) (by kernel_rfl) (by kernel_rfl) (fun _ _ _ h => h) (Or.inl ⟨by rfl, ?hy18⟩) (by assumption) ?rest18
        case hy18 => (intro w hSw; (try dsimp only at hSw); go_simp; (try with_reducible rfl))
        try simp only [Act.put, List.setIfInBounds_toArray, List.set_cons_zero, List.set_cons_succ, List.getElem_toArray, List.getElem_cons_zero, List.getElem_cons_succ]
        refine wpAnyH_take (i := 19) (v := ?v19) rfl (by kernel_rfl) (by kernel_rfl) (by kernel_rfl) (fun _ _ _ h => h) (Or.inl ⟨by rfl, ?hy19⟩) (by assumption) ?rest19
        case hy19 => (intro w hSw; (try dsimp only at hSw); go_simp; (try with_reducible rfl))
        try simp only [Act.put, List.setIfInBounds_toArray, List.set_cons_zero, List.set_cons_succ, List.getElem_toArray, List.getElem_cons_zero, List.getElem_cons_succ]
        refine wpAnyH_take (i := 20) (v := ?v20) rfl (by kernel_rfl) (by kernel_rfl) (by kernel_rfl) (fun _ _ _ h => h) (Or.inl ⟨by rfl, ?hy20⟩) (by assumption) ?rest20
        case hy20 => (intro w hSw; (try dsimp only at hSw); go_simp; (try with_reducible rfl))
        try simp only [Act.put, List.setIfInBounds_toArray, List.set_cons_zero, List.set_cons_succ, List.getElem_toArray, List.getElem_cons_zero, List.getElem_cons_succ]
        refine wpAnyH_take (i := 21) (v := ?v21) rfl (by kernel_rfl) (by kernel_rfl) (by kernel_rfl) (fun _ _ _ h => h) (Or.inl ⟨by rfl, ?hy21⟩) (by assumption) ?rest21
        case hy21 => (intro w hSw; (try dsimp only at hSw); go_simp; (try with_reducible rfl))
        try simp only [Act.put, List.setIfInBounds_toArray, List.set_cons_zero, List.set_cons_succ, List.getElem_toArray, List.getElem_cons_zero, List.getElem_cons_succ]
        refine wpAnyH_take (i := 22) (v := ?v22) rfl (by kernel_rfl) (by kernel_rfl) (by kernel_rfl) (fun _ _ _ h => h) (Or.inl ⟨by rfl, ?hy22⟩) (by assumption) ?rest22
        case hy22 => (intro w hSw; (try dsimp only at hSw); go_simp; (try with_reducible rfl))
        try simp only [Act.put, List.setIfInBounds_toArray, List.set_cons_zero, List.set_cons_succ, List.getElem_toArray, List.getElem_cons_zero, List.getElem_cons_succ]
        refine wpAnyH_take (i := 23) (v := ?v23) rfl (by kernel_rfl) (by kernel_rfl) (by kernel_rfl) (fun _ _ _ h => h) (Or.inl ⟨by rfl, ?hy23⟩) (by assumption) ?rest23
        case hy23 => (intro w hSw; (try dsimp only at hSw); go_simp; (try with_reducible rfl))
        try simp only [Act.put, List.setIfInBounds_toArray, List.set_cons_zero, List.set_cons_succ, List.getElem_toArray, List.getElem_cons_zero, List.getElem_cons_succ]
        refine wpAnyH_take (i := 24) (v := ?v24) rfl (by kernel_rfl) (by kernel_rfl) (by kernel_rfl) (fun _ _ _ h => h) (Or.inl ⟨by rfl, ?hy24⟩) (by assumption) ?rest24
        case hy24 => (intro w hSw; (try dsimp only at hSw); go_simp; (try with_reducible rfl))
        try simp only [Act.put, List.setIfInBounds_toArray, List.set_cons_zero, List.set_cons_succ, List.getElem_toArray, List.getElem_cons_zero, List.getElem_cons_succ]
        refine wpAnyH_ready (rs := [7]) (by kernel_rfl) (by simp) ?_
        refine AllReadyH.cons rfl (fun K hK => ?_) AllReadyH.nil
        go_simp
        refine (view_lit _ HBc.out.1).mono ?_
        rintro e wv ⟨rfl, bv⟩
        have hBd := HBc.out.below bv
        obtain ⟨d1', d2', d3', d4'⟩ := both_cells hBd
        have HBd := Lib.hid hBd
        have HKd := Lib.hid bv
        clear hBd bv hHeld
        refine hK.out _ _ ⟨d1', d2', d3', d4'⟩ (fun hHeld => ?_)
        clear hK K
        try simp only [Act.put, List.setIfInBounds_toArray, List.set_cons_zero, List.set_cons_succ, List.getElem_toArray, List.getElem_cons_zero, List.getElem_cons_succ]
        refine wpAnyH_take (i := 25) (v := ?v25) rfl (by kernel_rfl) (by kernel_rfl) (by kernel_rfl) (fun _ _ _ h => h) (Or.inl ⟨by rfl, ?hy25⟩) (by assumption) ?rest25
        case hy25 => (intro w hSw; (try dsimp only at hSw); go_simp; (try with_reducible rfl))
        try simp only [Act.put, List.setIfInBounds_toArray, List.set_cons_zero, List.set_cons_succ, List.getElem_toArray, List.getElem_cons_zero, List.getElem_cons_succ]
        refine wpAnyH_take (i := 26) (v := ?v26) rfl (by kernel_rfl) (by kernel_rfl) (by kernel_rfl) (fun _ _ _ h => h) (Or.inl ⟨by rfl, ?hy26⟩) (by assumption) ?rest26
        case hy26 => (intro w hSw; (try dsimp only at hSw); go_simp; (try with_reducible rfl))
        try simp only [Act.put, List.setIfInBounds_toArray, List.set_cons_zero, List.set_cons_succ, List.getElem_toArray, List.getElem_cons_zero, List.getElem_cons_succ]
        refine wpAnyH_done (by kernel_rfl) ?_ _
        have hI : PlaysInv w gU d1 r1 g2 d2 most q (.int .i64 ((k : Int) + 1)) wv :=
          ⟨k + 1, _, _, by go_num, by omega, HBd.out, (HBb.out.drew.trans (HKc.out.below HBb.out.drew.size HS.out)).trans (HKd.out.mono (HBb.out.drew.trans (HKc.out.below HBb.out.drew.size HS.out)).size)⟩
        have HI := Lib.hid hI
        clear hI c1 c2 c3 c4 d1' d2' d3' d4' hHeld
        go_wp2_with fail
        go_meet
        case rel => exact ⟨rfl, HI.out⟩
      case rest =>
        obtain ⟨rfl, hI⟩ := hcut
        have HI := Lib.hid hI
        clear hI
        go_wp2
        go_roundw
        case rel => exact HI.out
        case measure => simp [intOf]; omega
    · go_wp2
      go_ret
      exact ⟨rfl, hb⟩
end Go.Proofs.Ytffkbadjbnmnmaa.Mine
