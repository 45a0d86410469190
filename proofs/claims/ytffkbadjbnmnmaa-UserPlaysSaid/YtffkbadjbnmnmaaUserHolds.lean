/- UserHolds's walk. -/
import Derived.Test.YtffkbadjbnmnmaaUserOk
import Derived.Deep.CutBlock
import Derived.Deep.DeepCutAuto
namespace Go.Proofs.Ytffkbadjbnmnmaa.Mine
open Go.RowKit Go.Proofs.YtffkbadjbnmnmaaW.PrintWords

/-- Behind an act: what it did, and the view from before it. -/
def HoldsCut (w : World) (nW g : Nat) (D : Dr) (s : US) (v ev : Value) (W : World) : Prop :=
  ∃ d : Did, ev = .int .i64 d.err ∧ Efs w.heap.size W v d.efs ∧ UAt W g D 3 d.st d.pn ∧ Below w.heap.size w W ∧ DidOk s d ∧
    W.heap[nW]? = some (.cells #[.int .i64 s.tei, .bool s.asking, .int .i64 s.ri, .int .i64 s.tries] 41 (0, 0))
def HoldsR (w : World) (nW g : Nat) (D : Dr) (s : US) (p : Pn) (W : World) : Prop :=
  W.heap[nW]? = some (.cells #[.int .i64 s.tei, .bool s.asking, .int .i64 s.ri, .int .i64 s.tries] 41 (0, 0)) ∧ UAt W g D 3 s p ∧ Below w.heap.size w W ∧ nW ∉ uset g D
theorem HoldsR.act {w W W' : World} {nW g : Nat} {D : Dr} {s : US} {p : Pn} {d : Did} {v : Value} (h : HoldsR w nW g D s p W) (hok : DidOk s d) (hd : Done W g D 3 d v W') (hS : ∀ x ∈ uset g D, w.heap.size ≤ x) :
    HoldsCut w nW g D s v (.int .i64 d.err) W' :=
  ⟨d, rfl, hd.1.mono h.2.2.1.size, hd.2.1, h.2.2.1.trans (hd.2.2.below h.2.2.1.size hS), hok, hd.2.2.at h.1 h.2.2.2⟩
theorem HoldsR.below {w W W' : World} {nW g : Nat} {D : Dr} {s : US} {p : Pn} (h : HoldsR w nW g D s p W) (b : Below W.heap.size W W') : HoldsR w nW g D s p W' :=
  ⟨(b.block _ (lt_of_at h.1)).trans h.1, h.2.1.below b, h.2.2.1.trans (b.mono h.2.2.1.size), h.2.2.2⟩
theorem uTimeout_err (D : Dr) (most : Int) (s : US) (p : Pn) : (uTimeout D most s p).err = 0 := by
  unfold uTimeout; split
  · split <;> rfl
  · rfl
theorem uMsg_err (D : Dr) (s : US) (p : Pn) (t ri ai : Int) : (uMsg D s p t ri ai).err = 0 := by
  unfold uMsg; split
  · rfl
  · split
    · rfl
    · split
      · rfl
      · split <;> rfl

instance : Inhabited Ef := ⟨⟨0, 0, 0, 0, 0⟩⟩
/-- An effect where a slice holds it. -/
def Ef.At (w : World) (ad : Addr) (x : Ef) : Prop :=
  w.cell? ad = some (.int .i64 x.kind) ∧ w.cell? (ad.add 1) = some (.int .i64 x.type) ∧ w.cell? (ad.add 2) = some (.int .i64 x.ri) ∧ w.cell? (ad.add 3) = some (.int .i64 x.ai) ∧ w.cell? (ad.add 4) = some (.int .i64 x.tei)
theorem Ef.At.later {w w' : World} {ad : Addr} {x : Ef} (h : Ef.At w ad x) (b : Below w.heap.size w w') :
    w'.cell? ad = some (.int .i64 x.kind) ∧ w'.cell? ⟨ad.block, ad.off + 1, none⟩ = some (.int .i64 x.type) ∧ w'.cell? ⟨ad.block, ad.off + 2, none⟩ = some (.int .i64 x.ri) ∧ w'.cell? ⟨ad.block, ad.off + 3, none⟩ = some (.int .i64 x.ai) ∧ w'.cell? ⟨ad.block, ad.off + 4, none⟩ = some (.int .i64 x.tei) := by
  obtain ⟨h0, h1, h2, h3, h4⟩ := h
  rw [add_pos _ _ (by decide)] at h1 h2 h3 h4
  have go : ∀ {a : Addr} {v : Value}, w.cell? a = some v → w'.cell? a = some v := fun hc => (b.cell (World.block_lt_of_cell? w _ hc)).trans hc
  exact ⟨go h0, go h1, go h2, go h3, go h4⟩
def ReadsEfs (w : World) (A : Option Addr) (l : List Ef) : Prop :=
  0 < l.length → ∃ ad, A = some ad ∧ ∀ j, j < l.length → Ef.At w (ad.add (j * 5)) (l.getD j default)
theorem ReadsEfs.of {B : Nat} {w : World} {A : Option Addr} {l : List Ef} (h : l = [] ∨ ∃ b, A = some ⟨b, 0, none⟩ ∧ B ≤ b ∧ w.heap[b]? = some (.cells (efCells l).toArray 39 (0, 0))) (hl : l.length ≤ 2) : ReadsEfs w A l := by
  intro h0
  rcases h with rfl | ⟨b, rfl, -, hb⟩
  · simp at h0
  have z : (⟨b, 0, none⟩ : Addr).add 0 = ⟨b, 0, none⟩ := by unfold Addr.add; simp
  refine ⟨_, rfl, fun j hj => ?_⟩
  match l, hl, hb, hj with
  | [x], _, hb, hj =>
    obtain rfl : j = 0 := by simp at hj; omega
    unfold Ef.At
    rw [Nat.zero_mul, z, add_pos _ 1 (by decide), add_pos _ 2 (by decide), add_pos _ 3 (by decide), add_pos _ 4 (by decide)]
    exact ⟨at_cell hb 0, at_cell hb 1, at_cell hb 2, at_cell hb 3, at_cell hb 4⟩
  | [x, y], _, hb, hj =>
    have hj2 : j = 0 ∨ j = 1 := by simp at hj; omega
    rcases hj2 with rfl | rfl
    · unfold Ef.At
      rw [Nat.zero_mul, z, add_pos _ 1 (by decide), add_pos _ 2 (by decide), add_pos _ 3 (by decide), add_pos _ 4 (by decide)]
      exact ⟨at_cell hb 0, at_cell hb 1, at_cell hb 2, at_cell hb 3, at_cell hb 4⟩
    · unfold Ef.At
      rw [add_pos ⟨b, 0, none⟩ (1 * 5) (by decide), add_pos _ 1 (by decide), add_pos _ 2 (by decide), add_pos _ 3 (by decide), add_pos _ 4 (by decide)]
      exact ⟨at_cell hb 5, at_cell hb 6, at_cell hb 7, at_cell hb 8, at_cell hb 9⟩

/-- The ways of the switch, in the walk's spelling. -/
theorem ten_ways (x : Int) : ((x == 1) = true ∨ (x == 1) = false ∧ (x == -1) = true) ∨
    ((x == 1) = false ∧ (x == -1) = false ∧ ((x == 2) = true ∨ (x == 2) = false ∧ (x == -2) = true)) ∨
    ((x == 1) = false ∧ (x == -1) = false ∧ (x == 2) = false ∧ (x == -2) = false ∧ ((x == 3) = true ∨ (x == 3) = false ∧ (x == -3) = true)) ∨
    ((x == 1) = false ∧ (x == -1) = false ∧ (x == 2) = false ∧ (x == -2) = false ∧ (x == 3) = false ∧ (x == -3) = false ∧ ((x == 4) = true ∨ (x == 4) = false ∧ (x == -4) = true)) ∨
    ((x == 1) = false ∧ (x == -1) = false ∧ (x == 2) = false ∧ (x == -2) = false ∧ (x == 3) = false ∧ (x == -3) = false ∧ (x == 4) = false ∧ (x == -4) = false) := by
  cases (x == 1) <;> cases (x == -1) <;> cases (x == 2) <;> cases (x == -2) <;> cases (x == 3) <;> cases (x == -3) <;> cases (x == 4) <;> cases (x == -4) <;> simp

def HoldsJ (We : World) (n : Nat) (jv : Value) (W : World) : Prop := ∃ j : Nat, jv = .int .i64 j ∧ j ≤ n ∧ Below We.heap.size We W

attribute [local go_sem] max_int min_int max_of_two min_of_two
set_option maxHeartbeats 2000000 in
set_option maxRecDepth 100000 in
theorem holds_any {A : Option Addr} {c : Nat} {l : List AV} (seed : Int) (w : World) (hR : ReadsUActs w A l) (hc : l.length ≤ c) (hn : l.length ≤ 9223372036854775807) :
    Calls Try.prog 8 #[.int .u64 seed, .slice A l.length c] w fun e w' => e = .returned (.bool true) ∧ Below w.heap.size w w' := by
  obtain ⟨n, hnl⟩ : ∃ n, l.length = n := ⟨_, rfl⟩
  rw [hnl] at hc hn ⊢
  obtain ⟨q, hq, hqn, hq100⟩ := cut_at n 100 (by decide)
  have hq8 : q ≤ 100 := by omega
  clear hq100
  have hqc : q ≤ c := by omega
  go_enter Try.func8, Try.ntmps8
  go_wp2_with fail
  refine (drawNew_any seed _ (reads_none _) (by decide)).mono ?_
  rintro e w1 ⟨d, r, rfl, hd, hr, hr2, hs, b1⟩
  have hs1 := src_sr (p := ([], seed)) hs hr2
  clear hs
  go_wp2_with fail
  refine (new_any (D := some (d, r)) (p := ([], seed)) 3 _ hs1).mono ?_
  rintro e w2 ⟨rfl, h2, b2⟩
  have hg := b1.size
  have hS := uset_new (r := r) hg hd
  have B2 := b1.trans (b2.mono b1.size)
  generalize w1.heap.size = g at h2 hS hg b2
  clear b1 hs1 b2
  generalize hD : (some (d, r) : Dr) = D at h2 hS
  replace h2 : UAt w2 g D 3 uIdle ([], seed) := h2
  go_wp2_with fail
  clear hq
  go_loopw [24] (fun i wr => DeafInv w g D q i wr) (fun i _ => q - (intOf i).toNat)
  case atStart => exact ⟨0, _, _, rfl, Nat.zero_le _, h2, B2⟩
  case round =>
    clear h2 B2
    obtain ⟨k, ⟨tei, asking, ri, tries⟩, p, rfl, hk, hU, hb⟩ := hrel
    by_cases hlt : k < q
    · obtain ⟨ad, rfl, hcell⟩ := hR (by omega)
      have ha := hcell k (by omega)
      obtain ⟨⟨d1, t1, r1, a1, own1, mine1⟩, hx⟩ : ∃ x, l.getD k default = x := ⟨_, rfl⟩
      rw [hx] at ha
      obtain ⟨e0, e1, e2, e3, e4, e5⟩ := ha.later hb
      simp only at e0 e1 e2 e3 e4 e5
      have HR := Lib.hid hR
      clear hx hcell hR ha
      have hUa := hU.below ((Below.refl _ wr).alloc (Nat.le_refl _) (.cells #[.int .i64 d1, .int .i64 t1, .int .i64 r1, .int .i64 a1, .bool own1, .bool mine1] 49))
      have hba := hb.alloc hb.size (.cells #[.int .i64 d1, .int .i64 t1, .int .i64 r1, .int .i64 a1, .bool own1, .bool mine1] 49)
      have hxa := at_new wr (.cells #[.int .i64 d1, .int .i64 t1, .int .i64 r1, .int .i64 a1, .bool own1, .bool mine1] 49)
      have HUa := Lib.hid hUa
      have HBa := Lib.hid hba
      have HXa := Lib.hid hxa
      clear hU hb hUa hba hxa
      go_wp2_with fail
      clear e0 e1 e2 e3 e4 e5
      refine (view_lit _ HUa.out).mono ?_
      rintro e wv ⟨rfl, bv⟩
      have hUv := HUa.out.below bv
      have hbv := HBa.out.trans (bv.mono HBa.out.size)
      have hxv : wv.heap[wr.heap.size]? = _ := (bv.block _ (lt_of_at HXa.out)).trans HXa.out
      clear bv
      have hxw := at_alloc hxv (.cells #[.int .i64 tei, .bool asking, .int .i64 ri, .int .i64 tries] 41)
      have hH : HoldsR w wv.heap.size g D ⟨tei, asking, ri, tries⟩ p (wv.alloc (.cells #[.int .i64 tei, .bool asking, .int .i64 ri, .int .i64 tries] 41)) :=
        ⟨at_new _ _, hUv.below ((Below.refl _ _).alloc (Nat.le_refl _) _), hbv.alloc hbv.size _, fun hm => by
          simp only [uset, List.mem_cons] at hm
          rcases hm with hm | hm
          · have := hUv.lt; omega
          · have := hUv.2.1.all_lt _ hm; omega⟩
      have HX := Lib.hid hxw
      have HH := Lib.hid hH
      have z0 := at_cell hxv 0
      simp at z0
      have zl := lt_of_at hxv
      clear hUv hbv hxv hxw hH HUa HBa HXa
      go_upto_block 2 with (fail)
      clear z0 zl
      generalize wv.alloc (.cells #[.int .i64 tei, .bool asking, .int .i64 ri, .int .i64 tries] 41) = W0 at HX HH ⊢
      generalize wv.heap.size = nW at HX HH ⊢
      have y0 := at_cell HX.out 0
      have y1 := at_cell HX.out 1
      have y2 := at_cell HX.out 2
      have y3 := at_cell HX.out 3
      have y4 := at_cell HX.out 4
      have y5 := at_cell HX.out 5
      simp at y0 y1 y2 y3 y4 y5
      go_cut [9, 10] (fun v ev wc => HoldsCut w nW g D ⟨tei, asking, ri, tries⟩ v ev wc)
      case first =>
        rcases ten_ways (Int.tmod d1 6) with (q1 | ⟨q1, q2⟩) | ⟨q1, q2, q3 | ⟨q3, q4⟩⟩ | ⟨q1, q2, q3, q4, q5 | ⟨q5, q6⟩⟩ | ⟨q1, q2, q3, q4, q5, q6, q7 | ⟨q7, q8⟩⟩ | ⟨q1, q2, q3, q4, q5, q6, q7, q8⟩
        all_goals go_wp2_with fail
        all_goals first
          | (refine (want_any _ HH.out.2.1).mono ?_
             rintro e wc ⟨v, rfl, hdone⟩
             have hI := HH.out.act (ok_want _ _ _) hdone hS
             clear hdone
             go_wp2_with fail
             go_meet
             case rel => exact hI)
          | (refine (verify_any _ HH.out.2.1).mono ?_
             rintro e wc ⟨v, rfl, hdone⟩
             have hI := HH.out.act (ok_verify _ _) hdone hS
             clear hdone
             go_wp2_with fail
             go_meet
             case rel => exact hI)
          | (refine (drop_any _ HH.out.2.1).mono ?_
             rintro e wc ⟨v, rfl, hdone⟩
             have hI := HH.out.act (ok_drop _ _) hdone hS
             clear hdone
             go_wp2_with fail
             go_meet
             case rel => exact hI)
          | (refine (timeout_any _ HH.out.2.1).mono ?_
             rintro e wc ⟨v, rfl, hdone⟩
             have hI := HH.out.act (ok_timeout _ _ _ _) hdone hS
             rw [uTimeout_err] at hI
             clear hdone
             go_wp2_with fail
             go_meet
             case rel => exact hI)
          | (refine (made_any (s := ⟨tei, asking, ri, tries⟩) d1 t1 r1 a1 own1 mine1 _ (fun W hW => view_any W (HH.out.below hW).2.1)).mono ?_
             rintro e wb ⟨rfl, bb⟩
             have HHb := Lib.hid (HH.out.below bb)
             clear bb
             go_wp2_with fail
             refine (message_any _ _ _ _ HHb.out.2.1).mono ?_
             rintro e wc ⟨v, rfl, hdone⟩
             have hI := HHb.out.act (ok_msg _ _ _ _ _ _ 3 HHb.out.2.1.2.2) hdone hS
             rw [uMsg_err] at hI
             clear hdone
             go_wp2_with fail
             go_meet
             case rel => exact hI)
      case rest =>
        obtain ⟨⟨efs, err, ⟨tei2, asking2, ri2, tries2⟩, p2⟩, rfl, ⟨Ae, ce, rfl, he⟩, hU2, hB2, ⟨hk1, hk2, hk3⟩, hW2⟩ := hcut
        dsimp only at he hU2 hk1 hk2 hk3 hW2 ⊢
        obtain ⟨m, hm⟩ : ∃ m, efs.length = m := ⟨_, rfl⟩
        have hRE := ReadsEfs.of he hk3
        rw [hm] at hk3 ⊢
        clear he
        have HU2 := Lib.hid hU2
        have HB2 := Lib.hid hB2
        have HW2 := Lib.hid hW2
        have HRE := Lib.hid hRE
        have HM := Lib.hid hm
        have HK1 := Lib.hid hk1
        have HK2 := Lib.hid hk2
        clear hU2 hB2 hW2 hRE hm hk1 hk2 y0 y1 y2 y3 y4 y5 HX HH
        go_wp2_with fail
        refine (view_lit _ HU2.out).mono ?_
        rintro e wv ⟨rfl, bv⟩
        have hUv := HU2.out.below bv
        have hbv := HB2.out.trans (bv.mono HB2.out.size)
        have hWv : wv.heap[nW]? = _ := (bv.block _ (lt_of_at HW2.out)).trans HW2.out
        have hWw := at_alloc hWv (.cells #[.int .i64 tei2, .bool asking2, .int .i64 ri2, .int .i64 tries2] 41)
        have hIw := at_new wv (.cells #[.int .i64 tei2, .bool asking2, .int .i64 ri2, .int .i64 tries2] 41)
        have hUw := hUv.below ((Below.refl _ wv).alloc (Nat.le_refl _) (.cells #[.int .i64 tei2, .bool asking2, .int .i64 ri2, .int .i64 tries2] 41))
        have hbw := hbv.alloc hbv.size (.cells #[.int .i64 tei2, .bool asking2, .int .i64 ri2, .int .i64 tries2] 41)
        have hew := bv.alloc bv.size (.cells #[.int .i64 tei2, .bool asking2, .int .i64 ri2, .int .i64 tries2] 41)
        have HEW := Lib.hid hew
        have HUw := Lib.hid hUw
        have HBw := Lib.hid hbw
        have HWw := Lib.hid hWw
        have HIw := Lib.hid hIw
        clear bv hUv hbv hWv hWw hIw hUw hbw hew HU2 HB2 HW2
        go_upto_region 23 with (fail)
        generalize wv.alloc (.cells #[.int .i64 tei2, .bool asking2, .int .i64 ri2, .int .i64 tries2] 41) = We at HEW HUw HBw HWw HIw ⊢
        generalize wv.heap.size = nI at HIw ⊢
        have v0 := at_cell HWw.out 0
        have v1 := at_cell HWw.out 1
        have v2 := at_cell HWw.out 2
        have v3 := at_cell HWw.out 3
        have i0 := at_cell HIw.out 0
        have i1 := at_cell HIw.out 1
        have i2 := at_cell HIw.out 2
        have i3 := at_cell HIw.out 3
        simp at v0 v1 v2 v3 i0 i1 i2 i3
        go_cut [80] (fun s wx => s = .bool false ∧ We = wx)
        case first =>
          by_cases he0 : err = 0
          · subst he0
            go_wp2_with fail
            go_meet
            case rel => exact ⟨rfl, rfl⟩
          · obtain ⟨he1, he2⟩ := HK2.out he0
            have hm0 : m = 0 := by rw [← HM.out, he1]; rfl
            injection he2 with a0 a1 a2 a3
            subst a0 a1 a2 a3 hm0
            have q0 : (err != 0) = true := by simpa using he0
            clear he1
            go_wp2_with fail
            go_meet
            case rel => exact ⟨rfl, rfl⟩
        case rest =>
          obtain ⟨rfl, rfl⟩ := hcut
          clear v0 v1 v2 v3 i0 i1 i2 i3
          go_wp2_with fail
          go_loopw [83] (fun j wr => HoldsJ We m j wr) (fun j _ => m - (intOf j).toNat)
          case atStart => exact ⟨0, rfl, Nat.zero_le _, Below.refl _ _⟩
          case round =>
            obtain ⟨j, rfl, hj, bj⟩ := hrel
            have hWj := (bj.block _ (lt_of_at HWw.out)).trans HWw.out
            have hIj := (bj.block _ (lt_of_at HIw.out)).trans HIw.out
            have v0 := at_cell hWj 0
            have i0 := at_cell hIj 0
            have i1 := at_cell hIj 1
            simp at v0 i0 i1
            have lW := lt_of_at hWj
            have lI := lt_of_at hIj
            clear hWj hIj
            have BJ := Lib.hid bj
            clear bj
            by_cases hjm : j < m
            · obtain ⟨ad2, rfl, hcell⟩ := HRE.out (by have := HM.out; omega)
              have ha := hcell j (by have := HM.out; omega)
              have hk := HK1.out (efs.getD j default) (by
                have hl : j < efs.length := by have := HM.out; omega
                rw [List.getD_eq_getElem?_getD, List.getElem?_eq_getElem hl]; exact List.getElem_mem hl)
              obtain ⟨⟨kd, ty, er, ea, et⟩, hx⟩ : ∃ x, efs.getD j default = x := ⟨_, rfl⟩
              rw [hx] at ha hk
              obtain ⟨x0, x1, x2, x3, x4⟩ := ha.later (HEW.out.trans (BJ.out.mono HEW.out.size))
              simp only at x0 x1 x2 x3 x4
              obtain ⟨g1, g2, g3⟩ := hk
              dsimp only at g1 g2 g3
              have hI : HoldsJ We m (.int .i64 ((j : Int) + 1)) ((wr.alloc (.cells #[.int .i64 kd, .int .i64 ty, .int .i64 er, .int .i64 ea, .int .i64 et] 39)).alloc (.cells #[.int .i64 ty, .int .i64 er, .int .i64 ea] 36)) :=
                ⟨j + 1, by go_num, by omega, (BJ.out.alloc BJ.out.size _).alloc (by have := BJ.out.size; simp; omega) _⟩
              have HI := Lib.hid hI
              clear hx hcell ha hI
              by_cases e1 : kd = 1
              · obtain ⟨p1, p2, p3, p4⟩ := g1 e1
                clear g1 g2 g3
                subst e1 p2
                have t0 : decide (0 ≤ tei) = false := by simpa using p1
                have t2 : decide (tei2 < 64) = false := by simpa using p3
                have t3 : decide (126 < tei2) = false := by simpa using p4
                go_wp2
                go_roundw
                case rel => exact HI.out
                case measure => simp [intOf]; omega
              · by_cases e2 : kd = 2
                · obtain ⟨p1, p2⟩ := g2 e2
                  clear g1 g2 g3 e1
                  subst e2 p1
                  have t0 : decide (0 ≤ tei2) = false := by simpa using p2
                  go_wp2
                  go_roundw
                  case rel => exact HI.out
                  case measure => simp [intOf]; omega
                · by_cases e3 : kd = 0
                  · obtain ⟨hF, hT, p3, p4⟩ := g3 e3
                    clear g1 g2 g3 e1 e2
                    subst e3
                    have t2 : decide (er < 0) = false := by simpa using p3
                    have t3 : decide (65535 < er) = false := by simpa using p4
                    have HF := Lib.hid hF
                    clear hF
                    by_cases e4 : ty = 1
                    · clear hT
                      subst e4
                      go_wp2_with fail
                      refine (fromNet_any _ _).mono ?_
                      rw [decide_eq_false HF.out]
                      rintro e w' ⟨rfl, rfl⟩
                      go_wp2
                      go_roundw
                      case rel => exact HI.out
                      case measure => simp [intOf]; omega
                    · have t4 : (ty != 1) = true := by simpa using e4
                      have t5 := hT.resolve_left e4
                      clear hT e4
                      subst t5
                      go_wp2_with fail
                      refine (fromNet_any _ _).mono ?_
                      rw [decide_eq_false HF.out]
                      rintro e w' ⟨rfl, rfl⟩
                      go_wp2
                      go_roundw
                      case rel => exact HI.out
                      case measure => simp [intOf]; omega
                  · clear g1 g2 g3
                    have t1 : (kd == 1) = false := by simpa using e1
                    have t2 : (kd == 2) = false := by simpa using e2
                    have t3 : (kd == 0) = false := by simpa using e3
                    go_wp2
                    go_roundw
                    case rel => exact HI.out
                    case measure => simp [intOf]; omega
            · have hI : DeafInv w g D q (.int .i64 ((k : Int) + 1)) wr :=
                ⟨k + 1, ⟨tei2, asking2, ri2, tries2⟩, p2, by go_num, by omega, HUw.out.below BJ.out, HBw.out.trans (BJ.out.mono HBw.out.size)⟩
              have HI := Lib.hid hI
              clear hI
              rcases asking2 with _ | _
              · go_wp2
                go_roundw
                case rel => exact HI.out
                case measure => simp [intOf]; omega
              · have ht : tei2 = -1 := by
                  have hw := HUw.out.2.2
                  unfold US.wf at hw
                  rcases hw.2.2.2.2.2.2.2.2.1 with h | h
                  · exact Bool.noConfusion h
                  · exact h.1
                have t0 : decide (0 ≤ tei2) = false := by rw [ht]; rfl
                clear ht
                go_wp2
                go_roundw
                case rel => exact HI.out
                case measure => simp [intOf]; omega
    · go_wp2_with fail
      refine (wakes_any _).mono ?_
      rintro e w6 ⟨rfl, b6⟩
      have HZ := Lib.hid (hb.trans (b6.mono hb.size))
      clear b6 hb hU
      go_wp2
      go_ret
      exact ⟨rfl, HZ.out⟩
end Go.Proofs.Ytffkbadjbnmnmaa.Mine
