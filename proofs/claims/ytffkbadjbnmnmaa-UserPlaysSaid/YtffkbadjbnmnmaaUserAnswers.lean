/- UserAnswers's walk. -/
import Derived.Test.YtffkbadjbnmnmaaUserActs
import Derived.Deep.RegionHeld3
namespace Go.Proofs.Ytffkbadjbnmnmaa.Mine
open Go.RowKit Go.Proofs.YtffkbadjbnmnmaaW.PrintWords

theorem Src.keep_nil {w w' : World} {g r : Nat} {st : Int} {S : List Nat} (h : Src w g r [] st) (k : Only S w w') (hg : g ∉ S) : Src w' g r [] st := by
  obtain ⟨A, c, h1, h2, h5, h6⟩ := h
  exact ⟨A, c, k.at h1 hg, h2, h5, Or.inl rfl⟩
theorem reads_none (w : World) : ReadsInt w .i64 none 0 [] := ⟨rfl, by simp, fun h => by omega⟩

def AnsInv (w : World) (g d r d2 r2 q : Nat) (tei : Int) (i : Value) (wr : World) : Prop :=
  ∃ (k : Nat) (st : Int), i = .int .i64 k ∧ k ≤ q ∧ UAt wr g (some (d, r)) 3 ⟨tei, false, 0, 0⟩ ([], st) ∧ Src wr d2 r2 [] st ∧ Below w.heap.size w wr

theorem putE_ok {t ri ai : Int} (h1 : 1 ≤ t) (h2 : t ≤ 7) (h3 : 0 ≤ ri) (h4 : ri ≤ 65535) (h5 : 0 ≤ ai) (h6 : ai ≤ 127) : putE t ri ai = 0 := by
  unfold putE packE
  rw [if_neg (by omega), if_neg (by omega), if_pos ⟨h5, h6⟩]
theorem view_lit {g : Nat} {D : Dr} {most tei ri tries : Int} {asking : Bool} {p : Pn} (w : World) (h : UAt w g D most ⟨tei, asking, ri, tries⟩ p) :
    Calls Try.prog 14 #[.pointer (some ⟨g, 0, none⟩)] w fun e w' => e = .returned (.agg #[.int .i64 tei, .bool asking, .int .i64 ri, .int .i64 tries]) ∧ Below w.heap.size w w' := view_any w h
theorem field_lit0 {tei ri tries : Int} {asking : Bool} (W : World) : (Instr.field 41 (.agg #[.int .i64 tei, .bool asking, .int .i64 ri, .int .i64 tries]) 0).run Try.prog W = .ok (.int .i64 tei) W := by kernel_rfl
theorem field_lit2 {tei ri tries : Int} {asking : Bool} (W : World) : (Instr.field 41 (.agg #[.int .i64 tei, .bool asking, .int .i64 ri, .int .i64 tries]) 2).run Try.prog W = .ok (.int .i64 ri) W := by kernel_rfl
theorem UAt.far {w w' : World} {g d r : Nat} {most : Int} {s : US} {st : Int} {S : List Nat} (h : UAt w g (some (d, r)) most s ([], st)) (k : Only S w w') (h1 : g ∉ S) (h2 : d ∉ S) : UAt w' g (some (d, r)) most s ([], st) :=
  ⟨k.at h.1 h1, ⟨h.2.1.1.keep_nil k h2, h.2.1.2⟩, h.2.2⟩
theorem next_far {w : World} {d2 r2 b : Nat} {st : Int} {o : Obj} {g d r : Nat} {most : Int} {s : US} {st' : Int} (h : Src w d2 r2 [] st) (hb : w.heap[b]? = some o) (hbd : b ≠ d2) (hu : UAt w g (some (d, r)) most s ([], st')) (h1 : g ≠ d2) (h2 : d ≠ d2) :
    Calls Try.prog 13 #[.pointer (some ⟨d2, 0, none⟩)] w.drew fun e w' => e = .returned (.int .i64 (nxt ([], st)).1) ∧ Src w' d2 r2 [] (lcg st) ∧ Only [d2] w w' ∧ w'.heap[b]? = some o ∧ UAt w' g (some (d, r)) most s ([], st') := by
  have h' : Src w.drew d2 r2 [] st := h.keep_nil ((Only.refl [] w).drew) (by simp)
  refine (next_any (p := ([], st)) _ h').mono ?_
  rintro e w2 ⟨rfl, a, k⟩
  have k' : Only [d2] w w2 := ((Only.refl [d2] w).drew).trans k
  exact ⟨rfl, a, k', k'.at hb (by simpa using hbd), hu.far k' (by simpa using h1) (by simpa using h2)⟩

attribute [local go_sem] max_int min_int max_of_two min_of_two
set_option maxHeartbeats 2000000 in
set_option maxRecDepth 100000 in
theorem answers_any {A : Option Addr} {n c : Nat} {l : List Bool} (seed m : Int) (w : World) (hl : l.length = n) (hR : ReadsUBools w A l) (hc : n ≤ c) (hn : n ≤ 9223372036854775807) :
    Calls Try.prog 3 #[.int .u64 seed, .int .i64 m, .slice A n c] w fun e w' => e = .returned (.bool true) ∧ Below w.heap.size w w' := by
  obtain ⟨q, hq, hqn, hq50⟩ := cut_at n 50 (by decide)
  have hq8 : q ≤ 50 := by omega
  clear hq50
  obtain ⟨p, N, hp, hp0, hN, hN3, -⟩ := rounds_of m 63 (by decide)
  have hN7 : N < 63 := by omega
  clear hN3
  have hqc : q ≤ c := by omega
  have HN := Lib.hid hN
  have HP := Lib.hid hp
  clear hN hp
  go_enter Try.func3, Try.ntmps3
  go_wp2_with fail
  refine (drawNew_any seed _ (reads_none _) (by decide)).mono ?_
  rintro e w1 ⟨d, r, rfl, hd, hr, hr2, hs, b1⟩
  have hs1 := src_sr (p := ([], seed)) hs hr2
  clear hs
  go_wp2_with fail
  refine (new_any (D := some (d, r)) (p := ([], seed)) 3 _ hs1).mono ?_
  rintro e w2 ⟨rfl, h2, b2⟩
  have hg := b1.size
  have hS := uset_new (r := r) hg hd
  have B2 := b1.trans (b2.mono b1.size)
  have hdl := hs1.1.lt
  generalize hgg : w1.heap.size = g at h2 hS hg b2 hdl
  clear b1 hs1 hgg
  go_wp2_with fail
  refine (drawNew_any seed _ (reads_none _) (by decide)).mono ?_
  rintro e w3 ⟨d2, r2, rfl, hd2, -, -, hs, b3⟩
  have h3 := h2.below b3
  have B3 := B2.trans (b3.mono B2.size)
  have hgt := h2.lt
  have ha := h2.2.1.all_lt d (by simp [dset])
  have hnS : d2 ∉ uset g (some (d, r)) := by simp [uset, dset]; omega
  have hnG : ∀ x ∈ [d2], x = g ∨ x = d → False := by intro x hx; simp at hx; omega
  have hd2w : w.heap.size ≤ d2 := by have := B2.size; omega
  clear h2 b2 b3 B2
  go_wp2_with fail
  refine (want_any _ h3).mono ?_
  have e1 : uWant (some (d, r)) uIdle ([], seed) = ⟨[⟨0, 1, (nxt ([], seed)).1, 127, 0⟩, ⟨4, 0, 0, 0, 0⟩], 0, ⟨-1, true, (nxt ([], seed)).1, 1⟩, ([], lcg seed)⟩ := by rfl
  rw [e1]
  rintro e w4 ⟨v, rfl, -, h4, o4⟩
  have hs4 := hs.keep_nil o4 hnS
  have B4 := B3.trans (o4.below B3.size hS)
  clear e1 h3 o4 hs B3
  obtain ⟨nn, hnn⟩ : ∃ nn, (nxt ([], seed)).1 = nn := ⟨_, rfl⟩
  have hnr := nxt_range ([], seed)
  rw [hnn] at hnr
  replace h4 : UAt w4 g (some (d, r)) 3 ⟨-1, true, nn, 1⟩ ([], lcg seed) := by rw [← hnn]; exact h4
  have hN := HN.out
  have hp := HP.out
  go_wp2_with fail
  clear hN hp
  refine (next_any (p := ([], seed)) _ hs4).mono ?_
  rw [hnn]
  rintro e w5 ⟨rfl, hs5, k5⟩
  have h5 := h4.far k5 (by simp; omega) (by simp; omega)
  have B5 := B4.trans (k5.below B4.size (by simpa using hd2w))
  clear h4 hs4 k5 B4 hnn
  go_wp2_with fail
  refine (message_any 2 nn (64 + (N : Int)) _ h5).mono ?_
  have e1 : uMsg (some (d, r)) ⟨-1, true, nn, 1⟩ ([], lcg seed) 2 nn (64 + (N : Int)) = ⟨[⟨5, 0, 0, 0, 0⟩, ⟨1, 0, 0, 0, 64 + (N : Int)⟩], 0, ⟨64 + (N : Int), false, 0, 0⟩, ([], lcg seed)⟩ := by
    have h0 : putE 2 nn (64 + (N : Int)) = 0 := putE_ok (by omega) (by omega) hnr.1 hnr.2 (by omega) (by omega)
    have hk : uTakes ⟨-1, true, nn, 1⟩ 2 nn (64 + (N : Int)) := ⟨rfl, rfl, rfl, by omega, by omega⟩
    unfold uMsg
    rw [if_neg (by omega), if_pos hk]
  rw [e1]
  rintro e w6 ⟨v6, rfl, -, h6, o6⟩
  have hs6 := hs5.keep_nil o6 hnS
  have B6 := B5.trans (o6.below B5.size hS)
  replace h6 : UAt w6 g (some (d, r)) 3 ⟨64 + (N : Int), false, 0, 0⟩ ([], lcg seed) := h6
  replace hs6 : Src w6 d2 r2 [] (lcg seed) := hs6
  clear e1 h5 o6 hs5 B5 hnr
  go_wp2_with fail
  clear hq
  generalize ht : 64 + (N : Int) = tei at h6
  have htr : 64 ≤ tei ∧ tei ≤ 126 := by omega
  go_loopw [36] (fun i wr => AnsInv w g d r d2 r2 q tei i wr) (fun i _ => q - (intOf i).toNat)
  case atStart => exact ⟨0, lcg seed, rfl, Nat.zero_le _, h6, hs6, B6⟩
  case round =>
    clear h6 hs6 B6
    obtain ⟨k, st, rfl, hk, hU, hs, hb⟩ := hrel
    by_cases hlt : k < q
    · obtain ⟨ad, rfl, hcell⟩ := hR (by omega)
      have c0 := hcell k (by omega)
      obtain ⟨y, hy⟩ : ∃ y, l.getD k false = y := ⟨_, rfl⟩
      rw [hy] at c0
      have d0 := (hb.cell (World.block_lt_of_cell? w _ c0)).trans c0
      have HR := Lib.hid hR
      clear hcell c0 hy hR
      rcases y with _ | _
      · go_wp2_with fail
        refine (message_any 4 0 tei _ hU).mono ?_
        have e1 : uMsg (some (d, r)) ⟨tei, false, 0, 0⟩ ([], st) 4 0 tei = ⟨[⟨0, 5, (nxt ([], st)).1, tei, 0⟩], 0, ⟨tei, false, 0, 0⟩, ([], lcg st)⟩ := by
          have h0 : putE 4 0 tei = 0 := putE_ok (by omega) (by omega) (by omega) (by omega) (by omega) (by omega)
          have hk : ¬ uTakes ⟨tei, false, 0, 0⟩ 4 0 tei := fun hh => by have := hh.1; omega
          have hm : uMine ⟨tei, false, 0, 0⟩ tei := ⟨by show tei ≠ -1; omega, Or.inl rfl⟩
          unfold uMsg
          rw [if_neg (by omega), if_neg hk, if_neg (by omega), if_pos ⟨hm, rfl⟩]
          rfl
        rw [e1]
        rintro e wa ⟨va, rfl, ⟨Aa, ca, rfl, hAa⟩, hUa, oa⟩
        obtain ⟨b, rfl, hbB, hbb⟩ := hAa.resolve_left (by simp)
        obtain ⟨nx, hnx⟩ : ∃ nx, (nxt ([], st)).1 = nx := ⟨_, rfl⟩
        rw [hnx] at hbb
        replace hbb : wa.heap[b]? = some (.cells #[.int .i64 0, .int .i64 5, .int .i64 nx, .int .i64 tei, .int .i64 0] 39 (0, 0)) := hbb
        have hsa := hs.keep_nil oa hnS
        have ba := hb.trans (oa.below hb.size hS)
        have hb2 : b ≠ d2 := by have := hs.lt; omega
        replace hUa : UAt wa g (some (d, r)) 3 ⟨tei, false, 0, 0⟩ ([], lcg st) := hUa
        have hg2 : g ≠ d2 := by omega
        have hdd : d ≠ d2 := by omega
        have x1 := at_cell hbb 1
        have x2 := at_cell hbb 2
        have x3 := at_cell hbb 3
        simp at x1 x2 x3
        have HUa := Lib.hid hUa
        have HSa := Lib.hid hsa
        have HBB := Lib.hid hbb
        have HBa := Lib.hid ba
        have HNX := Lib.hid hnx
        have hf0 := fun W => field_lit0 (tei := tei) (ri := 0) (tries := 0) (asking := false) W
        clear e1 hAa hU hs hb oa hUa hsa hbb ba hnx d0 hbB
        go_wp2_with fail
        go_region_held3 (fun w' => w'.cell? ⟨b, 1, none⟩ = some (.int .i64 5) ∧ w'.cell? ⟨b, 2, none⟩ = some (.int .i64 nx) ∧ w'.cell? ⟨b, 3, none⟩ = some (.int .i64 tei)) (go_keep) (first | (go_at_call 13; refine (next_far HSa.out HBB.out hb2 HUa.out hg2 hdd).mono ?_; rw [HNX.out]; rintro e wb ⟨rfl, hsb, kb, hbbb, hUb⟩; have x1 := at_cell hbbb 1; have x2 := at_cell hbbb 2; have x3 := at_cell hbbb 3; simp at x1 x2 x3; have HSb := Lib.hid hsb; have HUb := Lib.hid hUb; have KB := Lib.hid kb; have HBBb := Lib.hid hbbb; clear hsb hUb kb hbbb) | (go_at_call 14; refine (view_lit _ HUb.out).mono ?_; rintro e wc ⟨rfl, bc⟩; have hbc := (bc.block _ (lt_of_at HBBb.out)).trans HBBb.out; have x1 := at_cell hbc 1; have x2 := at_cell hbc 2; have x3 := at_cell hbc 3; simp at x1 x2 x3; have BC := Lib.hid bc; clear bc hbc))
        have hI : AnsInv w g d r d2 r2 q tei (.int .i64 ((k : Int) + 1)) wc := by
          have B1 := HBa.out.trans (KB.out.below HBa.out.size (by simpa using hd2w))
          exact ⟨k + 1, lcg st, by go_num, by omega, HUb.out.below BC.out, HSb.out.keep_nil (Only.of_below BC.out []) (by simp), B1.trans (BC.out.mono B1.size)⟩
        clear HUb HSb KB BC HBa HUa HSa HBB HBBb
        go_wp2
        go_roundw
        case rel => exact hI
        case measure => simp [intOf]; omega
      · go_wp2_with fail
        refine (message_any 4 0 127 _ hU).mono ?_
        have e1 : uMsg (some (d, r)) ⟨tei, false, 0, 0⟩ ([], st) 4 0 127 = ⟨[⟨0, 5, (nxt ([], st)).1, tei, 0⟩], 0, ⟨tei, false, 0, 0⟩, ([], lcg st)⟩ := by
          have h0 : putE 4 0 127 = 0 := putE_ok (by omega) (by omega) (by omega) (by omega) (by omega) (by omega)
          have hk : ¬ uTakes ⟨tei, false, 0, 0⟩ 4 0 127 := fun hh => by have := hh.1; omega
          have hm : uMine ⟨tei, false, 0, 0⟩ 127 := ⟨by show tei ≠ -1; omega, Or.inr rfl⟩
          unfold uMsg
          rw [if_neg (by omega), if_neg hk, if_neg (by omega), if_pos ⟨hm, rfl⟩]
          rfl
        rw [e1]
        rintro e wa ⟨va, rfl, ⟨Aa, ca, rfl, hAa⟩, hUa, oa⟩
        obtain ⟨b, rfl, hbB, hbb⟩ := hAa.resolve_left (by simp)
        obtain ⟨nx, hnx⟩ : ∃ nx, (nxt ([], st)).1 = nx := ⟨_, rfl⟩
        rw [hnx] at hbb
        replace hbb : wa.heap[b]? = some (.cells #[.int .i64 0, .int .i64 5, .int .i64 nx, .int .i64 tei, .int .i64 0] 39 (0, 0)) := hbb
        have hsa := hs.keep_nil oa hnS
        have ba := hb.trans (oa.below hb.size hS)
        have hb2 : b ≠ d2 := by have := hs.lt; omega
        replace hUa : UAt wa g (some (d, r)) 3 ⟨tei, false, 0, 0⟩ ([], lcg st) := hUa
        have hg2 : g ≠ d2 := by omega
        have hdd : d ≠ d2 := by omega
        have x1 := at_cell hbb 1
        have x2 := at_cell hbb 2
        have x3 := at_cell hbb 3
        simp at x1 x2 x3
        have HUa := Lib.hid hUa
        have HSa := Lib.hid hsa
        have HBB := Lib.hid hbb
        have HBa := Lib.hid ba
        have HNX := Lib.hid hnx
        have hf0 := fun W => field_lit0 (tei := tei) (ri := 0) (tries := 0) (asking := false) W
        clear e1 hAa hU hs hb oa hUa hsa hbb ba hnx d0 hbB
        go_wp2_with fail
        go_region_held3 (fun w' => w'.cell? ⟨b, 1, none⟩ = some (.int .i64 5) ∧ w'.cell? ⟨b, 2, none⟩ = some (.int .i64 nx) ∧ w'.cell? ⟨b, 3, none⟩ = some (.int .i64 tei)) (go_keep) (first | (go_at_call 13; refine (next_far HSa.out HBB.out hb2 HUa.out hg2 hdd).mono ?_; rw [HNX.out]; rintro e wb ⟨rfl, hsb, kb, hbbb, hUb⟩; have x1 := at_cell hbbb 1; have x2 := at_cell hbbb 2; have x3 := at_cell hbbb 3; simp at x1 x2 x3; have HSb := Lib.hid hsb; have HUb := Lib.hid hUb; have KB := Lib.hid kb; have HBBb := Lib.hid hbbb; clear hsb hUb kb hbbb) | (go_at_call 14; refine (view_lit _ HUb.out).mono ?_; rintro e wc ⟨rfl, bc⟩; have hbc := (bc.block _ (lt_of_at HBBb.out)).trans HBBb.out; have x1 := at_cell hbc 1; have x2 := at_cell hbc 2; have x3 := at_cell hbc 3; simp at x1 x2 x3; have BC := Lib.hid bc; clear bc hbc))
        have hI : AnsInv w g d r d2 r2 q tei (.int .i64 ((k : Int) + 1)) wc := by
          have B1 := HBa.out.trans (KB.out.below HBa.out.size (by simpa using hd2w))
          exact ⟨k + 1, lcg st, by go_num, by omega, HUb.out.below BC.out, HSb.out.keep_nil (Only.of_below BC.out []) (by simp), B1.trans (BC.out.mono B1.size)⟩
        clear HUb HSb KB BC HBa HUa HSa HBB HBBb
        go_wp2
        go_roundw
        case rel => exact hI
        case measure => simp [intOf]; omega
    · obtain rfl : k = q := by omega
      go_wp2_with fail
      refine (wakes_any _).mono ?_
      rintro e wa ⟨rfl, ba⟩
      have hUa := hU.below ba
      have Ba := hb.trans (ba.mono hb.size)
      have HUa := Lib.hid hUa
      have HBa := Lib.hid Ba
      clear hU hs hb ba hUa Ba
      go_wp2_with fail
      refine (view_lit _ HUa.out).mono ?_
      rintro e wb ⟨rfl, bb⟩
      have Bb := HBa.out.trans (bb.mono HBa.out.size)
      have HBb := Lib.hid Bb
      clear bb Bb
      go_wp2
      go_ret
      exact ⟨rfl, HBb.out⟩
end Go.Proofs.Ytffkbadjbnmnmaa.Mine
