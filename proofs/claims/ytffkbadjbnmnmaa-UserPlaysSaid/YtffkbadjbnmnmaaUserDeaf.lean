/- UserDeaf's walk. -/
import Derived.Test.YtffkbadjbnmnmaaUserAnswers
import Derived.Deep.CutBlock
import Derived.Deep.DeepCutAuto
namespace Go.Proofs.Ytffkbadjbnmnmaa.Mine
open Go.RowKit Go.Proofs.YtffkbadjbnmnmaaW.PrintWords

theorem add_pos (ad : Addr) (j : Nat) (hj : 0 < j) : ad.add j = ⟨ad.block, ad.off + j, none⟩ := by
  have h := add_field ad 0 j hj
  have e0 : ad.add 0 = ad := by unfold Addr.add; simp
  rw [Nat.zero_add, e0] at h
  exact h
/-- An act's cells in a later world, as the walk spells them. -/
theorem AV.At.later {w w' : World} {ad : Addr} {x : AV} (h : AV.At w ad x) (b : Below w.heap.size w w') :
    w'.cell? ad = some (.int .i64 x.d) ∧ w'.cell? ⟨ad.block, ad.off + 1, none⟩ = some (.int .i64 x.t) ∧ w'.cell? ⟨ad.block, ad.off + 2, none⟩ = some (.int .i64 x.r) ∧ w'.cell? ⟨ad.block, ad.off + 3, none⟩ = some (.int .i64 x.a) ∧ w'.cell? ⟨ad.block, ad.off + 4, none⟩ = some (.bool x.own) ∧ w'.cell? ⟨ad.block, ad.off + 5, none⟩ = some (.bool x.mine) := by
  obtain ⟨h0, h1, h2, h3, h4, h5⟩ := h
  rw [add_pos _ _ (by decide)] at h1 h2 h3 h4 h5
  have go : ∀ {a : Addr} {v : Value}, w.cell? a = some v → w'.cell? a = some v := fun hc => (b.cell (World.block_lt_of_cell? w _ hc)).trans hc
  exact ⟨go h0, go h1, go h2, go h3, go h4, go h5⟩

theorem fromNet_any (t : Int) (w : World) :
    Calls Try.prog 19 #[.int .i64 t] w fun e w' => e = .returned (.bool (decide (t = 2 ∨ t = 3 ∨ t = 4 ∨ t = 6))) ∧ w = w' := by
  go_enter Try.func19, Try.ntmps19
  go_wp2
  all_goals go_ret
  all_goals exact ⟨ret_bool (by simp_all), rfl⟩

/-- Who is deaf does nothing, and is as it was. -/
theorem deaf (D : Dr) (s : US) (p : Pn) (t ri ai most : Int) (hw : s.wf most) (h : ¬ ((t = 2 ∨ t = 3 ∨ t = 4 ∨ t = 6) ∧ (s.asking = true ∧ ri = s.ri ∨ 0 ≤ s.tei ∧ (ai = s.tei ∨ ai = 127)))) :
    uMsg D s p t ri ai = ⟨[], 0, s, p⟩ := by
  have hm : t = 2 ∨ t = 4 ∨ t = 6 → ¬ uMine s ai := fun ht hm => by
    unfold US.wf at hw
    obtain ⟨h1, h2⟩ := hm
    exact h ⟨by omega, Or.inr ⟨by omega, h2⟩⟩
  have hk : ¬ uTakes s t ri ai := fun hk => h ⟨Or.inl hk.1, Or.inl ⟨hk.2.1, hk.2.2.1⟩⟩
  unfold uMsg
  by_cases hE : putE t ri ai = 0
  · rw [if_neg (by omega), if_neg hk, if_neg, if_neg]
    · rintro ⟨a, b⟩; exact hm (by omega) a
    · rintro ⟨a, b⟩; exact hm (by omega) a
  · rw [if_pos hE]

/-- The view and the message that UserDeaf holds apart, and the user, in a later world. -/
def DeafR (w0 : World) (nV nM g : Nat) (D : Dr) (tei : Int) (asking : Bool) (ri tries t0 r0 a0 : Int) (p : Pn) (W : World) : Prop :=
  W.heap[nV]? = some (.cells #[.int .i64 tei, .bool asking, .int .i64 ri, .int .i64 tries] 41 (0, 0)) ∧ W.heap[nM]? = some (.cells #[.int .i64 t0, .int .i64 r0, .int .i64 a0] 36 (0, 0)) ∧ UAt W g D 3 ⟨tei, asking, ri, tries⟩ p ∧ Below w0.heap.size w0 W ∧ nV ∉ uset g D ∧ nM ∉ uset g D
section
variable {w0 W W' : World} {nV nM g : Nat} {D : Dr} {tei : Int} {asking : Bool} {ri tries t0 r0 a0 : Int} {p : Pn}
theorem DeafR.below (h : DeafR w0 nV nM g D tei asking ri tries t0 r0 a0 p W) (b : Below W.heap.size W W') : DeafR w0 nV nM g D tei asking ri tries t0 r0 a0 p W' :=
  ⟨(b.block _ (lt_of_at h.1)).trans h.1, (b.block _ (lt_of_at h.2.1)).trans h.2.1, h.2.2.1.below b, h.2.2.2.1.trans (b.mono h.2.2.2.1.size), h.2.2.2.2⟩
theorem DeafR.msg (h : DeafR w0 nV nM g D tei asking ri tries t0 r0 a0 p W) (hu : UAt W' g D 3 ⟨tei, asking, ri, tries⟩ p) (o : Only (uset g D) W W') (hS : ∀ x ∈ uset g D, w0.heap.size ≤ x) : DeafR w0 nV nM g D tei asking ri tries t0 r0 a0 p W' :=
  ⟨o.at h.1 h.2.2.2.2.1, o.at h.2.1 h.2.2.2.2.2, hu, h.2.2.2.1.trans (o.below h.2.2.2.1.size hS), h.2.2.2.2⟩
theorem DeafR.cells (h : DeafR w0 nV nM g D tei asking ri tries t0 r0 a0 p W) :
    W.cell? ⟨nV, 0, none⟩ = some (.int .i64 tei) ∧ W.cell? ⟨nV, 1, none⟩ = some (.bool asking) ∧ W.cell? ⟨nV, 2, none⟩ = some (.int .i64 ri) ∧ W.cell? ⟨nV, 3, none⟩ = some (.int .i64 tries) ∧ W.cell? ⟨nM, 0, none⟩ = some (.int .i64 t0) ∧ W.cell? ⟨nM, 1, none⟩ = some (.int .i64 r0) ∧ W.cell? ⟨nM, 2, none⟩ = some (.int .i64 a0) :=
  ⟨at_cell h.1 0, at_cell h.1 1, at_cell h.1 2, at_cell h.1 3, at_cell h.2.1 0, at_cell h.2.1 1, at_cell h.2.1 2⟩
theorem DeafR.drew (h : DeafR w0 nV nM g D tei asking ri tries t0 r0 a0 p W) : DeafR w0 nV nM g D tei asking ri tries t0 r0 a0 p W.drew := h.below (Below.refl _ _).drew
theorem DeafR.start (hu : UAt W g D 3 ⟨tei, asking, ri, tries⟩ p) (hb : Below w0.heap.size w0 W) :
    DeafR w0 W.heap.size (W.heap.size + 1) g D tei asking ri tries t0 r0 a0 p ((W.alloc (.cells #[.int .i64 tei, .bool asking, .int .i64 ri, .int .i64 tries] 41)).alloc (.cells #[.int .i64 t0, .int .i64 r0, .int .i64 a0] 36)) := by
  have h1 := at_alloc (at_new W (.cells #[.int .i64 tei, .bool asking, .int .i64 ri, .int .i64 tries] 41)) (.cells #[.int .i64 t0, .int .i64 r0, .int .i64 a0] 36)
  have h2 := at_new (W.alloc (.cells #[.int .i64 tei, .bool asking, .int .i64 ri, .int .i64 tries] 41)) (.cells #[.int .i64 t0, .int .i64 r0, .int .i64 a0] 36)
  rw [World.size_alloc] at h2
  have hl : ∀ x ∈ uset g D, x < W.heap.size := by
    intro x hx
    simp only [uset, List.mem_cons] at hx
    rcases hx with rfl | hx
    · exact hu.lt
    · exact hu.2.1.all_lt x hx
  have k : Only [] W ((W.alloc (.cells #[.int .i64 tei, .bool asking, .int .i64 ri, .int .i64 tries] 41)).alloc (.cells #[.int .i64 t0, .int .i64 r0, .int .i64 a0] 36)) := ((Only.refl _ _).alloc _).alloc _
  exact ⟨h1, h2, hu.keep k (fun x hx => by simp at hx), (hb.alloc hb.size _).alloc (by have := hb.size; simp; omega) _, fun hm => by have := hl _ hm; omega, fun hm => by have := hl _ hm; omega⟩
end

def DeafInv (w : World) (g : Nat) (D : Dr) (q : Nat) (i : Value) (wr : World) : Prop :=
  ∃ (k : Nat) (s : US) (p : Pn), i = .int .i64 k ∧ k ≤ q ∧ UAt wr g D 3 s p ∧ Below w.heap.size w wr
def DeafW (w : World) (g : Nat) (D : Dr) (wr : World) : Prop := ∃ (s : US) (p : Pn), UAt wr g D 3 s p ∧ Below w.heap.size w wr

theorem three_ways (x : Int) : ((x == 1) = true) ∨ ((x == 1) = false ∧ (x == 3) = true) ∨ ((x == 1) = false ∧ (x == 3) = false) := by
  cases h1 : (x == 1) <;> cases h2 : (x == 3) <;> simp_all

attribute [local go_sem] max_int min_int max_of_two min_of_two
set_option maxHeartbeats 2000000 in
set_option maxRecDepth 100000 in
theorem deaf_any {A : Option Addr} {c : Nat} {l : List AV} (seed : Int) (z : AV) (w : World) (hR : ReadsUActs w A l) (hc : l.length ≤ c) (hn : l.length ≤ 9223372036854775807) :
    Calls Try.prog 5 #[.int .u64 seed, .slice A l.length c, z.val] w fun e w' => e = .returned (.bool true) ∧ Below w.heap.size w w' := by
  obtain ⟨d0, t0, r0, a0, own, mine⟩ := z
  unfold AV.val
  obtain ⟨n, hnl⟩ : ∃ n, l.length = n := ⟨_, rfl⟩
  rw [hnl] at hc hn ⊢
  obtain ⟨q, hq, hqn, hq50⟩ := cut_at n 50 (by decide)
  have hq8 : q ≤ 50 := by omega
  clear hq50
  have hqc : q ≤ c := by omega
  have hbox := at_new w (.cells #[.int .i64 d0, .int .i64 t0, .int .i64 r0, .int .i64 a0, .bool own, .bool mine] 49)
  have B0 := (Below.refl w.heap.size w).alloc (Nat.le_refl _) (.cells #[.int .i64 d0, .int .i64 t0, .int .i64 r0, .int .i64 a0, .bool own, .bool mine] 49)
  generalize hw0 : w.alloc (.cells #[.int .i64 d0, .int .i64 t0, .int .i64 r0, .int .i64 a0, .bool own, .bool mine] 49) = w0 at hbox B0
  have HB := Lib.hid hbox
  have H0 := Lib.hid B0
  clear hbox B0
  go_enter Try.func5, Try.ntmps5
  go_wp2_with fail
  clear hw0
  refine (drawNew_any seed _ (reads_none _) (by decide)).mono ?_
  rintro e w1 ⟨d, r, rfl, hd, hr, hr2, hs, b1⟩
  have hs1 := src_sr (p := ([], seed)) hs hr2
  clear hs
  go_wp2_with fail
  refine (new_any (D := some (d, r)) (p := ([], seed)) 3 _ hs1).mono ?_
  rintro e w2 ⟨rfl, h2, b2⟩
  have hg := b1.size
  have hS := uset_new (r := r) hg hd
  have B2 := b1.trans (b2.mono b1.size)
  generalize w1.heap.size = g at h2 hS hg b2
  clear b1 hs1 b2
  generalize hD : (some (d, r) : Dr) = D at h2 hS
  replace h2 : UAt w2 g D 3 uIdle ([], seed) := h2
  go_wp2_with fail
  clear hq
  go_loopw [21] (fun i wr => DeafInv w0 g D q i wr) (fun i _ => q - (intOf i).toNat)
  case atStart => exact ⟨0, _, _, rfl, Nat.zero_le _, h2, B2⟩
  case round =>
    clear h2 B2
    obtain ⟨k, s, p, rfl, hk, hU, hb⟩ := hrel
    by_cases hlt : k < q
    · obtain ⟨ad, rfl, hcell⟩ := hR (by omega)
      have ha := hcell k (by omega)
      obtain ⟨⟨d1, t1, r1, a1, own1, mine1⟩, hx⟩ : ∃ x, l.getD k default = x := ⟨_, rfl⟩
      rw [hx] at ha
      obtain ⟨e0, e1, e2, e3, e4, e5⟩ := ha.later (H0.out.trans (hb.mono H0.out.size))
      simp only at e0 e1 e2 e3 e4 e5
      have HR := Lib.hid hR
      clear hx hcell hR ha
      have hUa := hU.below ((Below.refl _ wr).alloc (Nat.le_refl _) (.cells #[.int .i64 d1, .int .i64 t1, .int .i64 r1, .int .i64 a1, .bool own1, .bool mine1] 49))
      have hba := hb.alloc hb.size (.cells #[.int .i64 d1, .int .i64 t1, .int .i64 r1, .int .i64 a1, .bool own1, .bool mine1] 49)
      have HUa := Lib.hid hUa
      have HBa := Lib.hid hba
      clear hU hb hUa hba
      rcases three_ways (Int.tmod d1 6) with hd1 | ⟨hd1, hd3⟩ | ⟨hd1, hd3⟩
      · go_wp2_with fail
        refine (want_any _ HUa.out).mono ?_
        rintro e wc ⟨v, rfl, -, h3, o3⟩
        have hI : DeafInv w0 g D q (.int .i64 ((k : Int) + 1)) wc := ⟨k + 1, _, _, by go_num, by omega, h3, HBa.out.trans (o3.below HBa.out.size hS)⟩
        clear h3 o3
        go_wp2
        go_roundw
        case rel => exact hI
        case measure => simp [intOf]; omega
      · go_wp2_with fail
        refine (drop_any _ HUa.out).mono ?_
        rintro e wc ⟨v, rfl, -, h3, o3⟩
        have hI : DeafInv w0 g D q (.int .i64 ((k : Int) + 1)) wc := ⟨k + 1, _, _, by go_num, by omega, h3, HBa.out.trans (o3.below HBa.out.size hS)⟩
        clear h3 o3
        go_wp2
        go_roundw
        case rel => exact hI
        case measure => simp [intOf]; omega
      · go_wp2_with fail
        refine (made_any (s := s) d1 t1 r1 a1 own1 mine1 _ (fun W hW => view_any W (HUa.out.below hW))).mono ?_
        rintro e wb ⟨rfl, bb⟩
        have hUb := HUa.out.below bb
        have hbb := HBa.out.trans (bb.mono HBa.out.size)
        have HUb := Lib.hid hUb
        have HBb := Lib.hid hbb
        clear bb hUb hbb
        go_wp2_with fail
        refine (message_any _ _ _ _ HUb.out).mono ?_
        rintro e wc ⟨v, rfl, -, h3, o3⟩
        have hI : DeafInv w0 g D q (.int .i64 ((k : Int) + 1)) wc := ⟨k + 1, _, _, by go_num, by omega, h3, HBb.out.trans (o3.below HBb.out.size hS)⟩
        clear h3 o3
        go_wp2
        go_roundw
        case rel => exact hI
        case measure => simp [intOf]; omega
    · obtain rfl : k = q := by omega
      obtain ⟨tei, asking, ri, tries⟩ := s
      have HU := Lib.hid hU
      have HBr := Lib.hid hb
      clear hU hb
      go_wp2_with fail
      refine (view_lit _ HU.out).mono ?_
      rintro e wv ⟨rfl, bv⟩
      have hUv := HU.out.below bv
      have hbv := HBr.out.trans (bv.mono HBr.out.size)
      have hbx : wv.heap[w.heap.size]? = _ := (hbv.block _ (lt_of_at HB.out)).trans HB.out
      have hlx := lt_of_at hbx
      have y1 := at_cell hbx 1
      have y2 := at_cell hbx 2
      have y3 := at_cell hbx 3
      simp at y1 y2 y3
      have HUv := Lib.hid hUv
      have HBv := Lib.hid hbv
      clear bv hUv hbv hbx
      have HR0 := Lib.hid (DeafR.start (t0 := t0) (r0 := r0) (a0 := a0) HUv.out HBv.out)
      go_wp2_with fail
      obtain ⟨nV, hnV⟩ : ∃ nV, wv.heap.size = nV := ⟨_, rfl⟩
      obtain ⟨nM, hnM⟩ : ∃ nM, wv.heap.size + 1 = nM := ⟨_, rfl⟩
      rw [hnM, hnV] at HR0
      rw [hnM, hnV]
      generalize (wv.alloc (.cells #[.int .i64 tei, .bool asking, .int .i64 ri, .int .i64 tries] 41)).alloc (.cells #[.int .i64 t0, .int .i64 r0, .int .i64 a0] 36) = W0 at HR0 ⊢
      obtain ⟨z0, z1, z2, z3, z4, z5, z6⟩ := HR0.out.cells
      clear hnV hnM y1 y2 y3 hlx HU HBr
      refine (fromNet_any _ _).mono ?_
      by_cases hF : t0 = 2 ∨ t0 = 3 ∨ t0 = 4 ∨ t0 = 6
      · rw [decide_eq_true hF]
        rintro e w' ⟨rfl, rfl⟩
        rcases asking with _ | _
        · by_cases h0 : 0 ≤ tei
          · by_cases h1 : a0 = tei
            · have q1 : (a0 == tei) = true := by simpa using h1
              go_wp2_with fail
              refine (wakes_any _).mono ?_
              rintro e w6 ⟨rfl, b6⟩
              have hz := HR0.out.below b6
              have HZ := Lib.hid (H0.out.trans (hz.2.2.2.1.mono H0.out.size))
              clear hz b6
              go_wp2
              go_ret
              exact ⟨rfl, HZ.out⟩
            · have q1 : (a0 == tei) = false := by simpa using h1
              by_cases h2 : a0 = 127
              · have q2 : (a0 == 127) = true := by simpa using h2
                go_wp2_with fail
                refine (wakes_any _).mono ?_
                rintro e w6 ⟨rfl, b6⟩
                have hz := HR0.out.below b6
                have HZ := Lib.hid (H0.out.trans (hz.2.2.2.1.mono H0.out.size))
                clear hz b6
                go_wp2
                go_ret
                exact ⟨rfl, HZ.out⟩
              · have q2 : (a0 == 127) = false := by simpa using h2
                have hdf := deaf D ⟨tei, false, ri, tries⟩ p t0 r0 a0 3 HUv.out.2.2 (fun hh => by rcases hh.2 with ⟨h, _⟩ | ⟨_, h⟩; (exact Bool.noConfusion h); exact h.elim h1 h2)
                have HDF := Lib.hid hdf
                clear hdf
                go_wp2_with fail
                go_region_held3 (fun w' => w'.cell? ⟨nV, 0, none⟩ = some (.int .i64 tei) ∧ w'.cell? ⟨nV, 1, none⟩ = some (.bool false) ∧ w'.cell? ⟨nV, 2, none⟩ = some (.int .i64 ri) ∧ w'.cell? ⟨nV, 3, none⟩ = some (.int .i64 tries) ∧ w'.cell? ⟨nM, 0, none⟩ = some (.int .i64 t0) ∧ w'.cell? ⟨nM, 1, none⟩ = some (.int .i64 r0) ∧ w'.cell? ⟨nM, 2, none⟩ = some (.int .i64 a0)) (go_keep) (first | (go_at_call 15; refine (wakes_any _).mono ?_; rintro e wa ⟨rfl, ba⟩; have ha := HR0.out.drew.below ba; obtain ⟨z0, z1, z2, z3, z4, z5, z6⟩ := ha.cells; have HA := Lib.hid ha; clear ha ba) | (go_at_call 12; refine (message_any _ _ _ _ HA.out.2.2.1).mono ?_; rw [HDF.out]; rintro e wb ⟨v, rfl, ⟨Ab, cb, rfl, -⟩, hub, ob⟩; have hb2 := HA.out.msg hub ob hS; obtain ⟨z0, z1, z2, z3, z4, z5, z6⟩ := hb2.cells; have HB2 := Lib.hid hb2; clear hb2 hub ob) | (go_at_call 14; refine (view_lit _ HB2.out.2.2.1).mono ?_; rintro e wc ⟨rfl, bc⟩; have hc2 := HB2.out.below bc; obtain ⟨z0, z1, z2, z3, z4, z5, z6⟩ := hc2.cells; have HC2 := Lib.hid hc2; clear hc2 bc))
                all_goals
                  have HZ := Lib.hid (H0.out.trans (HC2.out.2.2.2.1.mono H0.out.size))
                  clear HC2 HB2 HA HR0
                  go_wp2
                  go_ret
                  exact ⟨rfl, HZ.out⟩
          · have q0 : decide (0 ≤ tei) = false := by simpa using h0
            have hdf := deaf D ⟨tei, false, ri, tries⟩ p t0 r0 a0 3 HUv.out.2.2 (fun hh => by rcases hh.2 with ⟨h, _⟩ | ⟨h, _⟩; (exact Bool.noConfusion h); exact h0 h)
            have HDF := Lib.hid hdf
            clear hdf
            go_wp2_with fail
            go_region_held3 (fun w' => w'.cell? ⟨nV, 0, none⟩ = some (.int .i64 tei) ∧ w'.cell? ⟨nV, 1, none⟩ = some (.bool false) ∧ w'.cell? ⟨nV, 2, none⟩ = some (.int .i64 ri) ∧ w'.cell? ⟨nV, 3, none⟩ = some (.int .i64 tries) ∧ w'.cell? ⟨nM, 0, none⟩ = some (.int .i64 t0) ∧ w'.cell? ⟨nM, 1, none⟩ = some (.int .i64 r0) ∧ w'.cell? ⟨nM, 2, none⟩ = some (.int .i64 a0)) (go_keep) (first | (go_at_call 15; refine (wakes_any _).mono ?_; rintro e wa ⟨rfl, ba⟩; have ha := HR0.out.drew.below ba; obtain ⟨z0, z1, z2, z3, z4, z5, z6⟩ := ha.cells; have HA := Lib.hid ha; clear ha ba) | (go_at_call 12; refine (message_any _ _ _ _ HA.out.2.2.1).mono ?_; rw [HDF.out]; rintro e wb ⟨v, rfl, ⟨Ab, cb, rfl, -⟩, hub, ob⟩; have hb2 := HA.out.msg hub ob hS; obtain ⟨z0, z1, z2, z3, z4, z5, z6⟩ := hb2.cells; have HB2 := Lib.hid hb2; clear hb2 hub ob) | (go_at_call 14; refine (view_lit _ HB2.out.2.2.1).mono ?_; rintro e wc ⟨rfl, bc⟩; have hc2 := HB2.out.below bc; obtain ⟨z0, z1, z2, z3, z4, z5, z6⟩ := hc2.cells; have HC2 := Lib.hid hc2; clear hc2 bc))
            all_goals
              have HZ := Lib.hid (H0.out.trans (HC2.out.2.2.2.1.mono H0.out.size))
              clear HC2 HB2 HA HR0
              go_wp2
              go_ret
              exact ⟨rfl, HZ.out⟩
        · have ht : tei = -1 := by
            have hw := HUv.out.2.2
            unfold US.wf at hw
            rcases hw.2.2.2.2.2.2.2.2.1 with h | h
            · exact Bool.noConfusion h
            · exact h.1
          have h0 : ¬ 0 ≤ tei := by omega
          have q0 : decide (0 ≤ tei) = false := by simpa using h0
          by_cases h1 : r0 = ri
          · have q1 : (r0 == ri) = true := by simpa using h1
            go_wp2_with fail
            refine (wakes_any _).mono ?_
            rintro e w6 ⟨rfl, b6⟩
            have hz := HR0.out.below b6
            have HZ := Lib.hid (H0.out.trans (hz.2.2.2.1.mono H0.out.size))
            clear hz b6
            go_wp2
            go_ret
            exact ⟨rfl, HZ.out⟩
          · have q1 : (r0 == ri) = false := by simpa using h1
            have hdf := deaf D ⟨tei, true, ri, tries⟩ p t0 r0 a0 3 HUv.out.2.2 (fun hh => by rcases hh.2 with ⟨_, h⟩ | ⟨h, _⟩; (exact h1 h); exact h0 h)
            have HDF := Lib.hid hdf
            clear hdf
            go_wp2_with fail
            go_region_held3 (fun w' => w'.cell? ⟨nV, 0, none⟩ = some (.int .i64 tei) ∧ w'.cell? ⟨nV, 1, none⟩ = some (.bool true) ∧ w'.cell? ⟨nV, 2, none⟩ = some (.int .i64 ri) ∧ w'.cell? ⟨nV, 3, none⟩ = some (.int .i64 tries) ∧ w'.cell? ⟨nM, 0, none⟩ = some (.int .i64 t0) ∧ w'.cell? ⟨nM, 1, none⟩ = some (.int .i64 r0) ∧ w'.cell? ⟨nM, 2, none⟩ = some (.int .i64 a0)) (go_keep) (first | (go_at_call 15; refine (wakes_any _).mono ?_; rintro e wa ⟨rfl, ba⟩; have ha := HR0.out.drew.below ba; obtain ⟨z0, z1, z2, z3, z4, z5, z6⟩ := ha.cells; have HA := Lib.hid ha; clear ha ba) | (go_at_call 12; refine (message_any _ _ _ _ HA.out.2.2.1).mono ?_; rw [HDF.out]; rintro e wb ⟨v, rfl, ⟨Ab, cb, rfl, -⟩, hub, ob⟩; have hb2 := HA.out.msg hub ob hS; obtain ⟨z0, z1, z2, z3, z4, z5, z6⟩ := hb2.cells; have HB2 := Lib.hid hb2; clear hb2 hub ob) | (go_at_call 14; refine (view_lit _ HB2.out.2.2.1).mono ?_; rintro e wc ⟨rfl, bc⟩; have hc2 := HB2.out.below bc; obtain ⟨z0, z1, z2, z3, z4, z5, z6⟩ := hc2.cells; have HC2 := Lib.hid hc2; clear hc2 bc))
            all_goals
              have HZ := Lib.hid (H0.out.trans (HC2.out.2.2.2.1.mono H0.out.size))
              clear HC2 HB2 HA HR0
              go_wp2
              go_ret
              exact ⟨rfl, HZ.out⟩
      · rw [decide_eq_false hF]
        rintro e w' ⟨rfl, rfl⟩
        have hdf := deaf D ⟨tei, asking, ri, tries⟩ p t0 r0 a0 3 HUv.out.2.2 (fun hh => hF hh.1)
        have HDF := Lib.hid hdf
        clear hdf
        go_wp2_with fail
        go_region_held3 (fun w' => w'.cell? ⟨nV, 0, none⟩ = some (.int .i64 tei) ∧ w'.cell? ⟨nV, 1, none⟩ = some (.bool asking) ∧ w'.cell? ⟨nV, 2, none⟩ = some (.int .i64 ri) ∧ w'.cell? ⟨nV, 3, none⟩ = some (.int .i64 tries) ∧ w'.cell? ⟨nM, 0, none⟩ = some (.int .i64 t0) ∧ w'.cell? ⟨nM, 1, none⟩ = some (.int .i64 r0) ∧ w'.cell? ⟨nM, 2, none⟩ = some (.int .i64 a0)) (go_keep) (first | (go_at_call 15; refine (wakes_any _).mono ?_; rintro e wa ⟨rfl, ba⟩; have ha := HR0.out.drew.below ba; obtain ⟨z0, z1, z2, z3, z4, z5, z6⟩ := ha.cells; have HA := Lib.hid ha; clear ha ba) | (go_at_call 12; refine (message_any _ _ _ _ HA.out.2.2.1).mono ?_; rw [HDF.out]; rintro e wb ⟨v, rfl, ⟨Ab, cb, rfl, -⟩, hub, ob⟩; have hb2 := HA.out.msg hub ob hS; obtain ⟨z0, z1, z2, z3, z4, z5, z6⟩ := hb2.cells; have HB2 := Lib.hid hb2; clear hb2 hub ob) | (go_at_call 14; refine (view_lit _ HB2.out.2.2.1).mono ?_; rintro e wc ⟨rfl, bc⟩; have hc2 := HB2.out.below bc; obtain ⟨z0, z1, z2, z3, z4, z5, z6⟩ := hc2.cells; have HC2 := Lib.hid hc2; clear hc2 bc))
        all_goals
          have HZ := Lib.hid (H0.out.trans (HC2.out.2.2.2.1.mono H0.out.size))
          clear HC2 HB2 HA HR0
          go_wp2
          go_ret
          exact ⟨rfl, HZ.out⟩
end Go.Proofs.Ytffkbadjbnmnmaa.Mine
