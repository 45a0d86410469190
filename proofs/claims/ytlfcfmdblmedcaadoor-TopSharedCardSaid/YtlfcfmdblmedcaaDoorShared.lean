/- TopShared's walk (printed by wip/shgen.py, of wip/shared.part). -/
import Derived.Test.YtlfcfmdblmedcaaDoorShC
namespace Go.Proofs.YtlfcfmdblmedcaaDoor.Mine
open Go.RowKit Go.Maps Go.Proofs.YtlfcfmdblmedcaaDoorW.PrintWords
attribute [local go_sem] max_int min_int max_of_two min_of_two

theorem OffAt.users {B0 Z : Nat} {w : World} {go g gp gm : Nat} {s : SS} {us : List UR} {uv : Value} (h : OffAt B0 Z w go g gp gm s us uv) : w.cell? ⟨go, 1, none⟩ = some uv := by
  obtain ⟨gi, fa, hb⟩ := h.box
  exact at_cell hb 1
theorem OffAt.source {B0 Z : Nat} {w : World} {go g gp gm : Nat} {s : SS} {us : List UR} {uv : Value} (h : OffAt B0 Z w go g gp gm s us uv) : w.cell? ⟨go, 0, none⟩ = some (.pointer (some ⟨g, 0, none⟩)) := by
  obtain ⟨gi, fa, hb⟩ := h.box
  exact at_cell hb 0
def s0 : SS := ⟨0, 62, fun _ => none, 0⟩
/-- When k users are made. -/
def ShI (B0 Z : Nat) (w : World) (go g gp gm : Nat) (seed : Int) (k : Nat) (uv : Value) (wr : World) : Prop :=
  ∃ us, OffAt B0 Z wr go g gp gm s0 us uv ∧ us.length = k ∧ Idle seed 0 us ∧ (∀ x ∈ us, uv.ownBlock ≠ some x.r) ∧ Below B0 w wr
theorem idle_snoc {seed : Int} : ∀ {k : Nat} {l : List UR} {u : UR} {j : Nat}, Idle seed k l → j = k + l.length → u.s = uIdle → u.p = ([(j : Int) + 1], seed) → Idle seed k (l ++ [u])
  | k, [], _, j, _, hj, h1, h2 => ⟨h1, by rw [h2, hj]; simp, trivial⟩
  | k, x :: l, _, j, hl, hj, h1, h2 => ⟨hl.1, hl.2.1, idle_snoc hl.2.2 (by rw [hj]; simp; omega) h1 h2⟩
/-- When k users have their TEI. -/
def GvI (B0 Z : Nat) (w : World) (go g gp gm : Nat) (seed : Int) (nn k : Nat) (uv : Value) (wr : World) : Prop :=
  ∃ dn rest, OffAt B0 Z wr go g gp gm ⟨bitsN k, lastN k, fun _ => none, 0⟩ (dn ++ rest) uv ∧ dn.length = k ∧ dn.length + rest.length = nn + 1 ∧ Held 0 dn ∧ Idle seed k rest ∧ Below B0 w wr
theorem own_cap {w : World} {B : Nat} {e : TypeId} {s n c m : Nat} {A : Option Addr} {xs : List Value} (h : w.ownsRow B e s (.slice A n c) m xs) : n ≤ c := by
  rcases h.2 with ⟨h0, -⟩ | ⟨g, cap, cur, h0, -, -, h3, -⟩
  · injection h0 with _ h1 h2
    omega
  · injection h0 with _ h1 h2
    omega
theorem want_idle (D : Nat × Nat) (k : Nat) (seed : Int) (hk : k ≤ 20) : uWant (some D) uIdle ([(k : Int) + 1], seed) = ⟨[⟨0, 1, (k : Int) + 1, 127, 0⟩, ⟨4, 0, 0, 0, 0⟩], 0, ⟨-1, true, (k : Int) + 1, 1⟩, ([], seed)⟩ := by
  have e : ((k : Int) + 1) % 65536 = (k : Int) + 1 := by omega
  show (⟨[⟨0, 1, ((k : Int) + 1) % 65536, 127, 0⟩, ⟨4, 0, 0, 0, 0⟩], 0, ⟨-1, true, ((k : Int) + 1) % 65536, 1⟩, ([], seed)⟩ : Did) = _
  rw [e]
theorem hear_want (k : Nat) (hk : k ≤ 9) (f : Int → Option CK) (n : Nat) : HearR ⟨bitsN k, lastN k, f, n⟩ [⟨0, 1, (k : Int) + 1, 127, 0⟩, ⟨4, 0, 0, 0, 0⟩] [⟨0, 2, (k : Int) + 1, 64 + (k : Int), 0⟩, ⟨1, 0, 0, 0, 64 + (k : Int)⟩] ⟨bitsN (k + 1), lastN (k + 1), f, n⟩ := by
  have h := MsgR.req (s := ⟨bitsN k, lastN k, f, n⟩) (ri := (k : Int) + 1) (j := k) (seek_next k hk) (putE_in (by omega) (by omega) (by omega) (by omega) (by omega) (by omega))
  have e : (⟨orB (bitsN k) k, k, f, n⟩ : SS) = ⟨bitsN (k + 1), lastN (k + 1), f, n⟩ := by
    rw [or_next k hk]
    congr 1
  have h2 := HearR.send (x := ⟨0, 1, (k : Int) + 1, 127, 0⟩) (r := [⟨4, 0, 0, 0, 0⟩]) (l2 := []) rfl h (.other (by simp) (by simp) .nil)
  dsimp only at h2
  rw [e] at h2
  exact h2

set_option linter.unusedSimpArgs false in
set_option maxHeartbeats 8000000 in
set_option maxRecDepth 100000 in
theorem shared_any (seed n who : Int) (w : World) (hT : Tabs w) :
    Calls Tryd.prog 4 #[.int .u64 seed, .int .i64 n, .int .i64 who] w fun e w' => e = .returned (.bool true) ∧ Below w.heap.size w w' := by
  have HT := Lib.hid hT
  clear hT
  have hf0 := fun (tei ri tries : Int) (asking : Bool) W => field_tei (tei := tei) (ri := ri) (tries := tries) (asking := asking) W
  have hf2 := fun (tei ri tries : Int) (asking : Bool) W => field_ri (tei := tei) (ri := ri) (tries := tries) (asking := asking) W
  obtain ⟨pn, N, n1, n2, n3, n4, -⟩ := rounds_of n 8 (by decide)
  obtain ⟨nn, hnn⟩ : ∃ nn : Nat, 2 + (N : Int) = (nn : Int) := ⟨2 + N, by omega⟩
  have hn2 : 2 ≤ nn := by omega
  have hn9 : nn ≤ 9 := by omega
  obtain ⟨B0, hB0⟩ : ∃ B0, w.heap.size = B0 := ⟨_, rfl⟩
  rw [hB0]
  go_enter Tryd.func4, Tryd.ntmps4
  go_wp2_with fail
  refine (asks_any _ HT.out).mono ?_
  rintro e wa ⟨rfl, ba⟩
  rw [hB0] at ba
  have HBA := Lib.hid ba
  clear ba
  go_wp2_with fail
  refine (srcNew_any _).mono ?_
  rintro e w1 ⟨g, gp, gm, rfl, hs1, g1, g2, g3, b1⟩
  have hsz := HBA.out.size
  have hlt := hs1.lt
  have hOff : OffAt B0 (w1.heap.size + 1) (w1.alloc (.cells #[.pointer (some ⟨g, 0, none⟩), .slice none 0 0, .int .i64 0, .int .i64 0] 56)) w1.heap.size g gp gm s0 [] (.slice none 0 0) := by
    have hsz1 := b1.size
    rw [hB0] at hsz
    refine ⟨⟨0, 0, at_new _ _⟩, SrcAt.below hs1 ((Below.refl _ _).alloc (Nat.le_refl _) _), ⟨fun u hu => by simp at hu, List.Pairwise.nil⟩, own_nil _ _ _ _, ?_, ?_, ?_, ?_, by simp⟩ <;> omega
  have hB1 : Below B0 w (w1.alloc (.cells #[.pointer (some ⟨g, 0, none⟩), .slice none 0 0, .int .i64 0, .int .i64 0] 56)) := by
    have hsz1 := b1.size
    rw [hB0] at hsz
    exact (HBA.out.trans (b1.mono hsz)).alloc (by omega) _
  have hI0 : ShI B0 (w1.heap.size + 1) w w1.heap.size g gp gm seed 0 (.slice none 0 0) (w1.alloc (.cells #[.pointer (some ⟨g, 0, none⟩), .slice none 0 0, .int .i64 0, .int .i64 0] 56)) :=
    ⟨[], hOff, rfl, trivial, fun x hx => by simp at hx, hB1⟩
  have HI0 := Lib.hid hI0
  clear hs1 b1 hOff hB1 hI0
  go_upto_region 5 with (fail)
  generalize w1.alloc (.cells #[.pointer (some ⟨g, 0, none⟩), .slice none 0 0, .int .i64 0, .int .i64 0] 56) = Wo at HI0 ⊢
  obtain ⟨Z, hZ⟩ : ∃ Z, w1.heap.size + 1 = Z := ⟨_, rfl⟩
  rw [hZ] at HI0
  generalize w1.heap.size = go at HI0 ⊢
  clear hZ hlt g1 g2 g3 hsz n1 n2
  go_wp2_with fail
  go_loopw [30] (fun i wr => ∃ (k : Nat) (uv : Value), i = .int .i64 (k : Int) ∧ k ≤ nn + 1 ∧ ShI B0 Z w go g gp gm seed k uv wr) (fun i _ => nn + 1 - (intOf i).toNat)
  case atStart => exact ⟨0, _, rfl, Nat.zero_le _, HI0.out⟩
  case round =>
    clear HI0
    obtain ⟨k, uv, rfl, hk, us, hO, hlen, hid, hrr, hbw⟩ := hrel
    by_cases hkn : k < nn + 1
    · have hkn' : (k : Int) < (nn : Int) + 1 := by omega
      have HO := Lib.hid hO
      have HLEN := Lib.hid hlen
      have HID := Lib.hid hid
      have HRR := Lib.hid hrr
      have HBW := Lib.hid hbw
      have z0 := hO.users
      have hul : us.length ≤ 20 := by omega
      have hwr : IntKind.i64.wrap ((k : Int) + 1) = (k : Int) + 1 := by rw [IntKind.wrap_i64]; omega
      have b1 := (Below.refl wr.heap.size wr).drew.alloc (Nat.le_refl _) (.cells #[.int .i64 ((k : Int) + 1)] 3)
      have HB1 := Lib.hid b1
      have HZ1 := (hO.below b1).users
      have ZB := Lib.hid HZ1
      have RL := Lib.hid (reads_list wr.drew [(k : Int) + 1] (by simp))
      clear hO hlen hid hrr hbw b1 HZ1
      go_upto_region 8 with (fail)
      refine wp_region_any (by kernel_rfl) ?_
      change wpAny _ _ _ _ _ _ _ (World.drew _)
      refine wpAny_take (i := 0) (v := ?v0) rfl (by kernel_rfl) (by kernel_rfl) (by kernel_rfl) (fun _ _ _ h => h) (Or.inl ⟨by rfl, ?hy0⟩) ?rest0
      case hy0 => (intro w; go_simp; (try with_reducible rfl))
      try simp only [Act.put, List.setIfInBounds_toArray, List.set_cons_zero, List.set_cons_succ, List.getElem_toArray, List.getElem_cons_zero, List.getElem_cons_succ]
      refine wpAny_take (i := 1) (v := ?v1) rfl (by kernel_rfl) (by kernel_rfl) (by kernel_rfl) (fun _ _ _ h => h) (Or.inl ⟨by rfl, ?hy1⟩) ?rest1
      case hy1 => (intro w; go_simp; (try with_reducible rfl))
      try simp only [Act.put, List.setIfInBounds_toArray, List.set_cons_zero, List.set_cons_succ, List.getElem_toArray, List.getElem_cons_zero, List.getElem_cons_succ]
      refine wpAny_take (i := 2) (v := ?v2) rfl (by kernel_rfl) (by kernel_rfl) (by kernel_rfl) (fun _ _ _ h => h) (Or.inl ⟨by rfl, ?hy2⟩) ?rest2
      case hy2 => (intro w; go_simp; (try with_reducible rfl))
      try simp only [Act.put, List.setIfInBounds_toArray, List.set_cons_zero, List.set_cons_succ, List.getElem_toArray, List.getElem_cons_zero, List.getElem_cons_succ]
      refine wpAny_take (i := 3) (v := ?v3) rfl (by kernel_rfl) (by kernel_rfl) (by kernel_rfl) (fun _ _ _ h => h) (Or.inl ⟨by rfl, ?hy3⟩) ?rest3
      case hy3 => (intro w; go_simp; (try with_reducible rfl))
      try simp only [Act.put, List.setIfInBounds_toArray, List.set_cons_zero, List.set_cons_succ, List.getElem_toArray, List.getElem_cons_zero, List.getElem_cons_succ]
      refine wpAny_take (i := 5) (v := ?v5) rfl (by kernel_rfl) (by kernel_rfl) (by kernel_rfl) (fun _ _ _ h => h) (Or.inl ⟨by rfl, ?hy5⟩) ?rest5
      case hy5 => (intro w; go_simp; (try with_reducible rfl))
      try simp only [Act.put, List.setIfInBounds_toArray, List.set_cons_zero, List.set_cons_succ, List.getElem_toArray, List.getElem_cons_zero, List.getElem_cons_succ]
      refine wpAny_take (i := 6) (v := ?v6) rfl (by kernel_rfl) (by kernel_rfl) (by kernel_rfl) (fun _ _ _ h => h) (Or.inl ⟨by rfl, ?hy6⟩) ?rest6
      case hy6 => (intro w; go_simp; (try with_reducible rfl))
      try simp only [Act.put, List.setIfInBounds_toArray, List.set_cons_zero, List.set_cons_succ, List.getElem_toArray, List.getElem_cons_zero, List.getElem_cons_succ]
      refine wpAny_take (i := 7) (v := .int .i64 ((k : Int) + 1)) rfl (by kernel_rfl) (by kernel_rfl) (by kernel_rfl) (fun _ _ _ h => h) (Or.inl ⟨by rfl, ?hy7⟩) ?rest7
      case hy7 => (intro w; go_simp; (try with_reducible rfl))
      try simp only [Act.put, List.setIfInBounds_toArray, List.set_cons_zero, List.set_cons_succ, List.getElem_toArray, List.getElem_cons_zero, List.getElem_cons_succ]
      refine wpAny_ready (rs := [4, 8]) (by kernel_rfl) (by simp) ?_
      refine AllReady.cons rfl (fun K hK => ?_) (AllReady.cons rfl (fun K hK => ?_) AllReady.nil)
      · go_simp
        refine hK _ _ ?_
        clear hK K
        try simp only [Act.put, List.setIfInBounds_toArray, List.set_cons_zero, List.set_cons_succ, List.getElem_toArray, List.getElem_cons_zero, List.getElem_cons_succ]
        refine wpAny_ready (rs := [8]) (by kernel_rfl) (by simp) ?_
        refine AllReady.cons rfl (fun K hK => ?_) AllReady.nil
        go_simp
        refine hK _ _ ?_
        have z1 : (wr.alloc (.cells #[.int .i64 ((k : Int) + 1)] 3)).cell? ⟨go, 1, none⟩ = some uv := ZB.out
        clear z0
        clear hK K
        try simp only [Act.put, List.setIfInBounds_toArray, List.set_cons_zero, List.set_cons_succ, List.getElem_toArray, List.getElem_cons_zero, List.getElem_cons_succ]
        refine wpAny_ready (rs := [9]) (by kernel_rfl) (by simp) ?_
        refine AllReady.cons rfl (fun K hK => ?_) AllReady.nil
        go_simp
        refine (drawNew_any seed _ RL.out (by simp)).mono ?_
        rintro e w2 ⟨d, r, rfl, hd, hr, hr2, hsd, b2⟩
        have hs2 := src_sr (p := ([(k : Int) + 1], seed)) hsd hr2
        have HSD := Lib.hid hs2
        have HB2 := Lib.hid (HB1.out.trans (b2.mono HB1.out.size))
        have HO2 := Lib.hid (HO.out.below HB2.out)
        have z2 := HO2.out.users
        have hdl := hsd.lt
        have hd1 : wr.heap.size < d := by simp at hd; omega
        have hr1 : wr.heap.size < r := by simp at hr; omega
        refine hK _ _ ?_
        clear hs2 hsd b2 z1
        clear hK K
        try simp only [Act.put, List.setIfInBounds_toArray, List.set_cons_zero, List.set_cons_succ, List.getElem_toArray, List.getElem_cons_zero, List.getElem_cons_succ]
        refine wpAny_ready (rs := [10]) (by kernel_rfl) (by simp) ?_
        refine AllReady.cons rfl (fun K hK => ?_) AllReady.nil
        go_simp
        refine (new_any (D := some (d, r)) (p := ([(k : Int) + 1], seed)) 3 _ HSD.out).mono ?_
        rintro e w3 ⟨rfl, hu3, b3⟩
        have HU3 := Lib.hid (show UAt w3 w2.heap.size (some (d, r)) 3 uIdle ([(k : Int) + 1], seed) from hu3)
        have HB3 := Lib.hid (HB2.out.trans (b3.mono HB2.out.size))
        have HO3 := Lib.hid (HO.out.below HB3.out)
        have z3 := HO3.out.users
        have hgl := lt_of_at hu3.1
        have hsz2 := HB2.out.size
        refine hK _ _ ?_
        clear hu3 b3 z2
        clear hK K
        try simp only [Act.put, List.setIfInBounds_toArray, List.set_cons_zero, List.set_cons_succ, List.getElem_toArray, List.getElem_cons_zero, List.getElem_cons_succ]
        refine wpAny_ready (rs := [11]) (by kernel_rfl) (by simp) ?_
        refine AllReady.cons rfl (fun K hK => ?_) AllReady.nil
        go_simp
        refine hK _ _ ?_
        have z4 := (HO3.out.below ((Below.refl _ _).alloc (Nat.le_refl _) (.cells #[.pointer (some ⟨w2.heap.size, 0, none⟩)] 57))).users
        clear z3
        clear hK K
        try simp only [Act.put, List.setIfInBounds_toArray, List.set_cons_zero, List.set_cons_succ, List.getElem_toArray, List.getElem_cons_zero, List.getElem_cons_succ]
        refine wpAny_ready (rs := [12]) (by kernel_rfl) (by simp) ?_
        refine AllReady.cons rfl (fun K hK => ?_) AllReady.nil
        rw [if_pos (by kernel_rfl)]
        obtain ⟨v5, w5, hrun, hown, hgr, hat⟩ := append_ptr (x := .pointer (some ⟨w2.heap.size, 0, none⟩)) 54 HO3.out.row rfl (by have := HO3.out.zz; have := HO3.out.zgo; omega) (by omega)
        obtain ⟨A5, c5, rfl⟩ := own_slice hown
        refine oper_append (s := .tmp 37) (x := .tmp 44) (t := 54) rfl rfl rfl hrun ?_
        have ho6 := HO.out.add (ug := w2.heap.size) (d := d) (r := r) HB3.out HU3.out ⟨hsz2, hgl⟩ ⟨by omega, by omega⟩ ⟨by omega, by omega⟩ hown hgr HRR.out
        have hrr6 : ∀ x ∈ us ++ [⟨w2.heap.size, d, r, wr.heap.size, w3.heap.size, uIdle, ([(k : Int) + 1], seed)⟩], (Value.slice A5 (us.length + 1) c5).ownBlock ≠ some x.r := by
          intro x hx e
          rw [List.mem_append] at hx
          rcases hat with hat | hat
          · rw [hat] at e
            rcases hx with hx | hx
            · exact HRR.out x hx e
            · simp at hx
              subst hx
              have := own_lt HO.out.row r e
              omega
          · rw [hat] at e
            injection e with e
            have h3 := HB3.out.size
            rcases hx with hx | hx
            · have h1 := (HO.out.usr.all x hx).rz
              have h2 := (HO.out.usr.all x hx).top
              omega
            · simp at hx
              subst hx
              dsimp only at e
              omega
        have HRR6 := Lib.hid hrr6
        have HO6 := Lib.hid ho6
        have HB6 := Lib.hid (show Below B0 w (w5.setCell ⟨go, 1, none⟩ (.slice A5 (us.length + 1) c5)) from by
          have b4 := (HBW.out.trans (HB3.out.mono (Nat.le_trans HO.out.zgo.1 (by have := HO.out.zgo; have := HO.out.zz; omega)))).alloc (by have := HO3.out.zz; have := HO3.out.zgo; omega) (.cells #[.pointer (some ⟨w2.heap.size, 0, none⟩)] 57)
          refine Below.setCell ?_ HO.out.zgo.1 _
          refine ⟨hgr.os.trans b4.os, hgr.tape.trans b4.tape, hgr.output.trans b4.output, Nat.le_trans b4.size hgr.size, fun q hq => ?_⟩
          refine (hgr.block q (Nat.lt_of_lt_of_le hq (by have := HO3.out.zz; have := HO3.out.zgo; simp; omega)) (fun e => ?_)).trans (b4.block q hq)
          have := (HO.out.row.lt q e.symm).1
          omega)
        have hob : ∃ gi fa : Int, w5.heap[go]? = some (.cells #[.pointer (some ⟨g, 0, none⟩), uv, .int .i64 gi, .int .i64 fa] 56 (0, 0)) := by
          obtain ⟨gi, fa, hb⟩ := (HO3.out.below ((Below.refl _ _).alloc (Nat.le_refl _) (.cells #[.pointer (some ⟨w2.heap.size, 0, none⟩)] 57))).box
          refine ⟨gi, fa, (hgr.block go (lt_of_at hb) (fun e => ?_)).trans hb⟩
          obtain ⟨cs, hcs⟩ := own_not (HO3.out.row.alloc (.cells #[.pointer (some ⟨w2.heap.size, 0, none⟩)] 57)) e.symm
          exact cells_ne hcs hb (by decide) rfl
        obtain ⟨gi5, fa5, hob5⟩ := hob
        have z5 := at_cell hob5 1
        have f5 := at_frozen hob5 1
        simp only [List.getElem?_toArray, List.getElem?_cons_zero, List.getElem?_cons_succ] at z5
        have zl5 := lt_of_at hob5
        refine hK _ _ ?_
        clear hrun hown hgr hat ho6 hrr6 hob5 z4
        clear hK K
        try simp only [Act.put, List.setIfInBounds_toArray, List.set_cons_zero, List.set_cons_succ, List.getElem_toArray, List.getElem_cons_zero, List.getElem_cons_succ]
        refine wpAny_take (i := 13) (v := ?v13_1) rfl (by kernel_rfl) (by kernel_rfl) (by kernel_rfl) (fun _ _ _ h => h) (Or.inl ⟨by rfl, ?hy13_1⟩) ?rest13_1
        case hy13_1 => (intro w; go_simp; (try with_reducible rfl))
        try simp only [Act.put, List.setIfInBounds_toArray, List.set_cons_zero, List.set_cons_succ, List.getElem_toArray, List.getElem_cons_zero, List.getElem_cons_succ]
        refine wpAny_take (i := 14) (v := ?v14_2) rfl (by kernel_rfl) (by kernel_rfl) (by kernel_rfl) (fun _ _ _ h => h) (Or.inl ⟨by rfl, ?hy14_2⟩) ?rest14_2
        case hy14_2 => (intro w; go_simp; (try with_reducible rfl))
        try simp only [Act.put, List.setIfInBounds_toArray, List.set_cons_zero, List.set_cons_succ, List.getElem_toArray, List.getElem_cons_zero, List.getElem_cons_succ]
        refine wpAny_ready (rs := [15]) (by kernel_rfl) (by simp) ?_
        refine AllReady.cons rfl (fun K hK => ?_) AllReady.nil
        go_simp
        refine hK _ _ ?_
        clear hK K
        try simp only [Act.put, List.setIfInBounds_toArray, List.set_cons_zero, List.set_cons_succ, List.getElem_toArray, List.getElem_cons_zero, List.getElem_cons_succ]
        refine wpAny_done (by kernel_rfl) ?_ _
        have hI : ShI B0 Z w go g gp gm seed (k + 1) (.slice A5 (us.length + 1) c5) (w5.setCell ⟨go, 1, none⟩ (.slice A5 (us.length + 1) c5)) :=
          ⟨us ++ [⟨w2.heap.size, d, r, wr.heap.size, w3.heap.size, uIdle, ([(k : Int) + 1], seed)⟩], HO6.out, by rw [List.length_append, HLEN.out]; rfl, idle_snoc (j := k) HID.out (by rw [HLEN.out, Nat.zero_add]) rfl rfl, HRR6.out, HB6.out⟩
        have HI := Lib.hid hI
        clear hI z5 f5 zl5
        go_wp2
        go_roundw
        case rel => exact ⟨k + 1, _, by go_num, by omega, HI.out⟩
        case measure => simp [intOf]; omega
      · go_simp
        refine hK _ _ ?_
        have z1 : (wr.alloc (.cells #[.int .i64 ((k : Int) + 1)] 3)).cell? ⟨go, 1, none⟩ = some uv := ZB.out
        clear z0
        clear hK K
        try simp only [Act.put, List.setIfInBounds_toArray, List.set_cons_zero, List.set_cons_succ, List.getElem_toArray, List.getElem_cons_zero, List.getElem_cons_succ]
        refine wpAny_ready (rs := [4, 9]) (by kernel_rfl) (by simp) ?_
        refine AllReady.cons rfl (fun K hK => ?_) (AllReady.cons rfl (fun K hK => ?_) AllReady.nil)
        · go_simp
          refine hK _ _ ?_
          clear hK K
          try simp only [Act.put, List.setIfInBounds_toArray, List.set_cons_zero, List.set_cons_succ, List.getElem_toArray, List.getElem_cons_zero, List.getElem_cons_succ]
          refine wpAny_ready (rs := [9]) (by kernel_rfl) (by simp) ?_
          refine AllReady.cons rfl (fun K hK => ?_) AllReady.nil
          go_simp
          refine (drawNew_any seed _ RL.out (by simp)).mono ?_
          rintro e w2 ⟨d, r, rfl, hd, hr, hr2, hsd, b2⟩
          have hs2 := src_sr (p := ([(k : Int) + 1], seed)) hsd hr2
          have HSD := Lib.hid hs2
          have HB2 := Lib.hid (HB1.out.trans (b2.mono HB1.out.size))
          have HO2 := Lib.hid (HO.out.below HB2.out)
          have z2 := HO2.out.users
          have hdl := hsd.lt
          have hd1 : wr.heap.size < d := by simp at hd; omega
          have hr1 : wr.heap.size < r := by simp at hr; omega
          refine hK _ _ ?_
          clear hs2 hsd b2 z1
          clear hK K
          try simp only [Act.put, List.setIfInBounds_toArray, List.set_cons_zero, List.set_cons_succ, List.getElem_toArray, List.getElem_cons_zero, List.getElem_cons_succ]
          refine wpAny_ready (rs := [10]) (by kernel_rfl) (by simp) ?_
          refine AllReady.cons rfl (fun K hK => ?_) AllReady.nil
          go_simp
          refine (new_any (D := some (d, r)) (p := ([(k : Int) + 1], seed)) 3 _ HSD.out).mono ?_
          rintro e w3 ⟨rfl, hu3, b3⟩
          have HU3 := Lib.hid (show UAt w3 w2.heap.size (some (d, r)) 3 uIdle ([(k : Int) + 1], seed) from hu3)
          have HB3 := Lib.hid (HB2.out.trans (b3.mono HB2.out.size))
          have HO3 := Lib.hid (HO.out.below HB3.out)
          have z3 := HO3.out.users
          have hgl := lt_of_at hu3.1
          have hsz2 := HB2.out.size
          refine hK _ _ ?_
          clear hu3 b3 z2
          clear hK K
          try simp only [Act.put, List.setIfInBounds_toArray, List.set_cons_zero, List.set_cons_succ, List.getElem_toArray, List.getElem_cons_zero, List.getElem_cons_succ]
          refine wpAny_ready (rs := [11]) (by kernel_rfl) (by simp) ?_
          refine AllReady.cons rfl (fun K hK => ?_) AllReady.nil
          go_simp
          refine hK _ _ ?_
          have z4 := (HO3.out.below ((Below.refl _ _).alloc (Nat.le_refl _) (.cells #[.pointer (some ⟨w2.heap.size, 0, none⟩)] 57))).users
          clear z3
          clear hK K
          try simp only [Act.put, List.setIfInBounds_toArray, List.set_cons_zero, List.set_cons_succ, List.getElem_toArray, List.getElem_cons_zero, List.getElem_cons_succ]
          refine wpAny_ready (rs := [12]) (by kernel_rfl) (by simp) ?_
          refine AllReady.cons rfl (fun K hK => ?_) AllReady.nil
          rw [if_pos (by kernel_rfl)]
          obtain ⟨v5, w5, hrun, hown, hgr, hat⟩ := append_ptr (x := .pointer (some ⟨w2.heap.size, 0, none⟩)) 54 HO3.out.row rfl (by have := HO3.out.zz; have := HO3.out.zgo; omega) (by omega)
          obtain ⟨A5, c5, rfl⟩ := own_slice hown
          refine oper_append (s := .tmp 37) (x := .tmp 44) (t := 54) rfl rfl rfl hrun ?_
          have ho6 := HO.out.add (ug := w2.heap.size) (d := d) (r := r) HB3.out HU3.out ⟨hsz2, hgl⟩ ⟨by omega, by omega⟩ ⟨by omega, by omega⟩ hown hgr HRR.out
          have hrr6 : ∀ x ∈ us ++ [⟨w2.heap.size, d, r, wr.heap.size, w3.heap.size, uIdle, ([(k : Int) + 1], seed)⟩], (Value.slice A5 (us.length + 1) c5).ownBlock ≠ some x.r := by
            intro x hx e
            rw [List.mem_append] at hx
            rcases hat with hat | hat
            · rw [hat] at e
              rcases hx with hx | hx
              · exact HRR.out x hx e
              · simp at hx
                subst hx
                have := own_lt HO.out.row r e
                omega
            · rw [hat] at e
              injection e with e
              have h3 := HB3.out.size
              rcases hx with hx | hx
              · have h1 := (HO.out.usr.all x hx).rz
                have h2 := (HO.out.usr.all x hx).top
                omega
              · simp at hx
                subst hx
                dsimp only at e
                omega
          have HRR6 := Lib.hid hrr6
          have HO6 := Lib.hid ho6
          have HB6 := Lib.hid (show Below B0 w (w5.setCell ⟨go, 1, none⟩ (.slice A5 (us.length + 1) c5)) from by
            have b4 := (HBW.out.trans (HB3.out.mono (Nat.le_trans HO.out.zgo.1 (by have := HO.out.zgo; have := HO.out.zz; omega)))).alloc (by have := HO3.out.zz; have := HO3.out.zgo; omega) (.cells #[.pointer (some ⟨w2.heap.size, 0, none⟩)] 57)
            refine Below.setCell ?_ HO.out.zgo.1 _
            refine ⟨hgr.os.trans b4.os, hgr.tape.trans b4.tape, hgr.output.trans b4.output, Nat.le_trans b4.size hgr.size, fun q hq => ?_⟩
            refine (hgr.block q (Nat.lt_of_lt_of_le hq (by have := HO3.out.zz; have := HO3.out.zgo; simp; omega)) (fun e => ?_)).trans (b4.block q hq)
            have := (HO.out.row.lt q e.symm).1
            omega)
          have hob : ∃ gi fa : Int, w5.heap[go]? = some (.cells #[.pointer (some ⟨g, 0, none⟩), uv, .int .i64 gi, .int .i64 fa] 56 (0, 0)) := by
            obtain ⟨gi, fa, hb⟩ := (HO3.out.below ((Below.refl _ _).alloc (Nat.le_refl _) (.cells #[.pointer (some ⟨w2.heap.size, 0, none⟩)] 57))).box
            refine ⟨gi, fa, (hgr.block go (lt_of_at hb) (fun e => ?_)).trans hb⟩
            obtain ⟨cs, hcs⟩ := own_not (HO3.out.row.alloc (.cells #[.pointer (some ⟨w2.heap.size, 0, none⟩)] 57)) e.symm
            exact cells_ne hcs hb (by decide) rfl
          obtain ⟨gi5, fa5, hob5⟩ := hob
          have z5 := at_cell hob5 1
          have f5 := at_frozen hob5 1
          simp only [List.getElem?_toArray, List.getElem?_cons_zero, List.getElem?_cons_succ] at z5
          have zl5 := lt_of_at hob5
          refine hK _ _ ?_
          clear hrun hown hgr hat ho6 hrr6 hob5 z4
          clear hK K
          try simp only [Act.put, List.setIfInBounds_toArray, List.set_cons_zero, List.set_cons_succ, List.getElem_toArray, List.getElem_cons_zero, List.getElem_cons_succ]
          refine wpAny_take (i := 13) (v := ?v13_3) rfl (by kernel_rfl) (by kernel_rfl) (by kernel_rfl) (fun _ _ _ h => h) (Or.inl ⟨by rfl, ?hy13_3⟩) ?rest13_3
          case hy13_3 => (intro w; go_simp; (try with_reducible rfl))
          try simp only [Act.put, List.setIfInBounds_toArray, List.set_cons_zero, List.set_cons_succ, List.getElem_toArray, List.getElem_cons_zero, List.getElem_cons_succ]
          refine wpAny_take (i := 14) (v := ?v14_4) rfl (by kernel_rfl) (by kernel_rfl) (by kernel_rfl) (fun _ _ _ h => h) (Or.inl ⟨by rfl, ?hy14_4⟩) ?rest14_4
          case hy14_4 => (intro w; go_simp; (try with_reducible rfl))
          try simp only [Act.put, List.setIfInBounds_toArray, List.set_cons_zero, List.set_cons_succ, List.getElem_toArray, List.getElem_cons_zero, List.getElem_cons_succ]
          refine wpAny_ready (rs := [15]) (by kernel_rfl) (by simp) ?_
          refine AllReady.cons rfl (fun K hK => ?_) AllReady.nil
          go_simp
          refine hK _ _ ?_
          clear hK K
          try simp only [Act.put, List.setIfInBounds_toArray, List.set_cons_zero, List.set_cons_succ, List.getElem_toArray, List.getElem_cons_zero, List.getElem_cons_succ]
          refine wpAny_done (by kernel_rfl) ?_ _
          have hI : ShI B0 Z w go g gp gm seed (k + 1) (.slice A5 (us.length + 1) c5) (w5.setCell ⟨go, 1, none⟩ (.slice A5 (us.length + 1) c5)) :=
            ⟨us ++ [⟨w2.heap.size, d, r, wr.heap.size, w3.heap.size, uIdle, ([(k : Int) + 1], seed)⟩], HO6.out, by rw [List.length_append, HLEN.out]; rfl, idle_snoc (j := k) HID.out (by rw [HLEN.out, Nat.zero_add]) rfl rfl, HRR6.out, HB6.out⟩
          have HI := Lib.hid hI
          clear hI z5 f5 zl5
          go_wp2
          go_roundw
          case rel => exact ⟨k + 1, _, by go_num, by omega, HI.out⟩
          case measure => simp [intOf]; omega
        · go_simp
          refine (drawNew_any seed _ RL.out (by simp)).mono ?_
          rintro e w2 ⟨d, r, rfl, hd, hr, hr2, hsd, b2⟩
          have hs2 := src_sr (p := ([(k : Int) + 1], seed)) hsd hr2
          have HSD := Lib.hid hs2
          have HB2 := Lib.hid (HB1.out.trans (b2.mono HB1.out.size))
          have HO2 := Lib.hid (HO.out.below HB2.out)
          have z2 := HO2.out.users
          have hdl := hsd.lt
          have hd1 : wr.heap.size < d := by simp at hd; omega
          have hr1 : wr.heap.size < r := by simp at hr; omega
          refine hK _ _ ?_
          clear hs2 hsd b2 z1
          clear hK K
          try simp only [Act.put, List.setIfInBounds_toArray, List.set_cons_zero, List.set_cons_succ, List.getElem_toArray, List.getElem_cons_zero, List.getElem_cons_succ]
          refine wpAny_ready (rs := [4, 10]) (by kernel_rfl) (by simp) ?_
          refine AllReady.cons rfl (fun K hK => ?_) (AllReady.cons rfl (fun K hK => ?_) AllReady.nil)
          · go_simp
            refine hK _ _ ?_
            clear hK K
            try simp only [Act.put, List.setIfInBounds_toArray, List.set_cons_zero, List.set_cons_succ, List.getElem_toArray, List.getElem_cons_zero, List.getElem_cons_succ]
            refine wpAny_ready (rs := [10]) (by kernel_rfl) (by simp) ?_
            refine AllReady.cons rfl (fun K hK => ?_) AllReady.nil
            go_simp
            refine (new_any (D := some (d, r)) (p := ([(k : Int) + 1], seed)) 3 _ HSD.out).mono ?_
            rintro e w3 ⟨rfl, hu3, b3⟩
            have HU3 := Lib.hid (show UAt w3 w2.heap.size (some (d, r)) 3 uIdle ([(k : Int) + 1], seed) from hu3)
            have HB3 := Lib.hid (HB2.out.trans (b3.mono HB2.out.size))
            have HO3 := Lib.hid (HO.out.below HB3.out)
            have z3 := HO3.out.users
            have hgl := lt_of_at hu3.1
            have hsz2 := HB2.out.size
            refine hK _ _ ?_
            clear hu3 b3 z2
            clear hK K
            try simp only [Act.put, List.setIfInBounds_toArray, List.set_cons_zero, List.set_cons_succ, List.getElem_toArray, List.getElem_cons_zero, List.getElem_cons_succ]
            refine wpAny_ready (rs := [11]) (by kernel_rfl) (by simp) ?_
            refine AllReady.cons rfl (fun K hK => ?_) AllReady.nil
            go_simp
            refine hK _ _ ?_
            have z4 := (HO3.out.below ((Below.refl _ _).alloc (Nat.le_refl _) (.cells #[.pointer (some ⟨w2.heap.size, 0, none⟩)] 57))).users
            clear z3
            clear hK K
            try simp only [Act.put, List.setIfInBounds_toArray, List.set_cons_zero, List.set_cons_succ, List.getElem_toArray, List.getElem_cons_zero, List.getElem_cons_succ]
            refine wpAny_ready (rs := [12]) (by kernel_rfl) (by simp) ?_
            refine AllReady.cons rfl (fun K hK => ?_) AllReady.nil
            rw [if_pos (by kernel_rfl)]
            obtain ⟨v5, w5, hrun, hown, hgr, hat⟩ := append_ptr (x := .pointer (some ⟨w2.heap.size, 0, none⟩)) 54 HO3.out.row rfl (by have := HO3.out.zz; have := HO3.out.zgo; omega) (by omega)
            obtain ⟨A5, c5, rfl⟩ := own_slice hown
            refine oper_append (s := .tmp 37) (x := .tmp 44) (t := 54) rfl rfl rfl hrun ?_
            have ho6 := HO.out.add (ug := w2.heap.size) (d := d) (r := r) HB3.out HU3.out ⟨hsz2, hgl⟩ ⟨by omega, by omega⟩ ⟨by omega, by omega⟩ hown hgr HRR.out
            have hrr6 : ∀ x ∈ us ++ [⟨w2.heap.size, d, r, wr.heap.size, w3.heap.size, uIdle, ([(k : Int) + 1], seed)⟩], (Value.slice A5 (us.length + 1) c5).ownBlock ≠ some x.r := by
              intro x hx e
              rw [List.mem_append] at hx
              rcases hat with hat | hat
              · rw [hat] at e
                rcases hx with hx | hx
                · exact HRR.out x hx e
                · simp at hx
                  subst hx
                  have := own_lt HO.out.row r e
                  omega
              · rw [hat] at e
                injection e with e
                have h3 := HB3.out.size
                rcases hx with hx | hx
                · have h1 := (HO.out.usr.all x hx).rz
                  have h2 := (HO.out.usr.all x hx).top
                  omega
                · simp at hx
                  subst hx
                  dsimp only at e
                  omega
            have HRR6 := Lib.hid hrr6
            have HO6 := Lib.hid ho6
            have HB6 := Lib.hid (show Below B0 w (w5.setCell ⟨go, 1, none⟩ (.slice A5 (us.length + 1) c5)) from by
              have b4 := (HBW.out.trans (HB3.out.mono (Nat.le_trans HO.out.zgo.1 (by have := HO.out.zgo; have := HO.out.zz; omega)))).alloc (by have := HO3.out.zz; have := HO3.out.zgo; omega) (.cells #[.pointer (some ⟨w2.heap.size, 0, none⟩)] 57)
              refine Below.setCell ?_ HO.out.zgo.1 _
              refine ⟨hgr.os.trans b4.os, hgr.tape.trans b4.tape, hgr.output.trans b4.output, Nat.le_trans b4.size hgr.size, fun q hq => ?_⟩
              refine (hgr.block q (Nat.lt_of_lt_of_le hq (by have := HO3.out.zz; have := HO3.out.zgo; simp; omega)) (fun e => ?_)).trans (b4.block q hq)
              have := (HO.out.row.lt q e.symm).1
              omega)
            have hob : ∃ gi fa : Int, w5.heap[go]? = some (.cells #[.pointer (some ⟨g, 0, none⟩), uv, .int .i64 gi, .int .i64 fa] 56 (0, 0)) := by
              obtain ⟨gi, fa, hb⟩ := (HO3.out.below ((Below.refl _ _).alloc (Nat.le_refl _) (.cells #[.pointer (some ⟨w2.heap.size, 0, none⟩)] 57))).box
              refine ⟨gi, fa, (hgr.block go (lt_of_at hb) (fun e => ?_)).trans hb⟩
              obtain ⟨cs, hcs⟩ := own_not (HO3.out.row.alloc (.cells #[.pointer (some ⟨w2.heap.size, 0, none⟩)] 57)) e.symm
              exact cells_ne hcs hb (by decide) rfl
            obtain ⟨gi5, fa5, hob5⟩ := hob
            have z5 := at_cell hob5 1
            have f5 := at_frozen hob5 1
            simp only [List.getElem?_toArray, List.getElem?_cons_zero, List.getElem?_cons_succ] at z5
            have zl5 := lt_of_at hob5
            refine hK _ _ ?_
            clear hrun hown hgr hat ho6 hrr6 hob5 z4
            clear hK K
            try simp only [Act.put, List.setIfInBounds_toArray, List.set_cons_zero, List.set_cons_succ, List.getElem_toArray, List.getElem_cons_zero, List.getElem_cons_succ]
            refine wpAny_take (i := 13) (v := ?v13_5) rfl (by kernel_rfl) (by kernel_rfl) (by kernel_rfl) (fun _ _ _ h => h) (Or.inl ⟨by rfl, ?hy13_5⟩) ?rest13_5
            case hy13_5 => (intro w; go_simp; (try with_reducible rfl))
            try simp only [Act.put, List.setIfInBounds_toArray, List.set_cons_zero, List.set_cons_succ, List.getElem_toArray, List.getElem_cons_zero, List.getElem_cons_succ]
            refine wpAny_take (i := 14) (v := ?v14_6) rfl (by kernel_rfl) (by kernel_rfl) (by kernel_rfl) (fun _ _ _ h => h) (Or.inl ⟨by rfl, ?hy14_6⟩) ?rest14_6
            case hy14_6 => (intro w; go_simp; (try with_reducible rfl))
            try simp only [Act.put, List.setIfInBounds_toArray, List.set_cons_zero, List.set_cons_succ, List.getElem_toArray, List.getElem_cons_zero, List.getElem_cons_succ]
            refine wpAny_ready (rs := [15]) (by kernel_rfl) (by simp) ?_
            refine AllReady.cons rfl (fun K hK => ?_) AllReady.nil
            go_simp
            refine hK _ _ ?_
            clear hK K
            try simp only [Act.put, List.setIfInBounds_toArray, List.set_cons_zero, List.set_cons_succ, List.getElem_toArray, List.getElem_cons_zero, List.getElem_cons_succ]
            refine wpAny_done (by kernel_rfl) ?_ _
            have hI : ShI B0 Z w go g gp gm seed (k + 1) (.slice A5 (us.length + 1) c5) (w5.setCell ⟨go, 1, none⟩ (.slice A5 (us.length + 1) c5)) :=
              ⟨us ++ [⟨w2.heap.size, d, r, wr.heap.size, w3.heap.size, uIdle, ([(k : Int) + 1], seed)⟩], HO6.out, by rw [List.length_append, HLEN.out]; rfl, idle_snoc (j := k) HID.out (by rw [HLEN.out, Nat.zero_add]) rfl rfl, HRR6.out, HB6.out⟩
            have HI := Lib.hid hI
            clear hI z5 f5 zl5
            go_wp2
            go_roundw
            case rel => exact ⟨k + 1, _, by go_num, by omega, HI.out⟩
            case measure => simp [intOf]; omega
          · go_simp
            refine (new_any (D := some (d, r)) (p := ([(k : Int) + 1], seed)) 3 _ HSD.out).mono ?_
            rintro e w3 ⟨rfl, hu3, b3⟩
            have HU3 := Lib.hid (show UAt w3 w2.heap.size (some (d, r)) 3 uIdle ([(k : Int) + 1], seed) from hu3)
            have HB3 := Lib.hid (HB2.out.trans (b3.mono HB2.out.size))
            have HO3 := Lib.hid (HO.out.below HB3.out)
            have z3 := HO3.out.users
            have hgl := lt_of_at hu3.1
            have hsz2 := HB2.out.size
            refine hK _ _ ?_
            clear hu3 b3 z2
            clear hK K
            try simp only [Act.put, List.setIfInBounds_toArray, List.set_cons_zero, List.set_cons_succ, List.getElem_toArray, List.getElem_cons_zero, List.getElem_cons_succ]
            refine wpAny_ready (rs := [4, 11]) (by kernel_rfl) (by simp) ?_
            refine AllReady.cons rfl (fun K hK => ?_) (AllReady.cons rfl (fun K hK => ?_) AllReady.nil)
            · go_simp
              refine hK _ _ ?_
              clear hK K
              try simp only [Act.put, List.setIfInBounds_toArray, List.set_cons_zero, List.set_cons_succ, List.getElem_toArray, List.getElem_cons_zero, List.getElem_cons_succ]
              refine wpAny_ready (rs := [11]) (by kernel_rfl) (by simp) ?_
              refine AllReady.cons rfl (fun K hK => ?_) AllReady.nil
              go_simp
              refine hK _ _ ?_
              have z4 := (HO3.out.below ((Below.refl _ _).alloc (Nat.le_refl _) (.cells #[.pointer (some ⟨w2.heap.size, 0, none⟩)] 57))).users
              clear z3
              clear hK K
              try simp only [Act.put, List.setIfInBounds_toArray, List.set_cons_zero, List.set_cons_succ, List.getElem_toArray, List.getElem_cons_zero, List.getElem_cons_succ]
              refine wpAny_ready (rs := [12]) (by kernel_rfl) (by simp) ?_
              refine AllReady.cons rfl (fun K hK => ?_) AllReady.nil
              rw [if_pos (by kernel_rfl)]
              obtain ⟨v5, w5, hrun, hown, hgr, hat⟩ := append_ptr (x := .pointer (some ⟨w2.heap.size, 0, none⟩)) 54 HO3.out.row rfl (by have := HO3.out.zz; have := HO3.out.zgo; omega) (by omega)
              obtain ⟨A5, c5, rfl⟩ := own_slice hown
              refine oper_append (s := .tmp 37) (x := .tmp 44) (t := 54) rfl rfl rfl hrun ?_
              have ho6 := HO.out.add (ug := w2.heap.size) (d := d) (r := r) HB3.out HU3.out ⟨hsz2, hgl⟩ ⟨by omega, by omega⟩ ⟨by omega, by omega⟩ hown hgr HRR.out
              have hrr6 : ∀ x ∈ us ++ [⟨w2.heap.size, d, r, wr.heap.size, w3.heap.size, uIdle, ([(k : Int) + 1], seed)⟩], (Value.slice A5 (us.length + 1) c5).ownBlock ≠ some x.r := by
                intro x hx e
                rw [List.mem_append] at hx
                rcases hat with hat | hat
                · rw [hat] at e
                  rcases hx with hx | hx
                  · exact HRR.out x hx e
                  · simp at hx
                    subst hx
                    have := own_lt HO.out.row r e
                    omega
                · rw [hat] at e
                  injection e with e
                  have h3 := HB3.out.size
                  rcases hx with hx | hx
                  · have h1 := (HO.out.usr.all x hx).rz
                    have h2 := (HO.out.usr.all x hx).top
                    omega
                  · simp at hx
                    subst hx
                    dsimp only at e
                    omega
              have HRR6 := Lib.hid hrr6
              have HO6 := Lib.hid ho6
              have HB6 := Lib.hid (show Below B0 w (w5.setCell ⟨go, 1, none⟩ (.slice A5 (us.length + 1) c5)) from by
                have b4 := (HBW.out.trans (HB3.out.mono (Nat.le_trans HO.out.zgo.1 (by have := HO.out.zgo; have := HO.out.zz; omega)))).alloc (by have := HO3.out.zz; have := HO3.out.zgo; omega) (.cells #[.pointer (some ⟨w2.heap.size, 0, none⟩)] 57)
                refine Below.setCell ?_ HO.out.zgo.1 _
                refine ⟨hgr.os.trans b4.os, hgr.tape.trans b4.tape, hgr.output.trans b4.output, Nat.le_trans b4.size hgr.size, fun q hq => ?_⟩
                refine (hgr.block q (Nat.lt_of_lt_of_le hq (by have := HO3.out.zz; have := HO3.out.zgo; simp; omega)) (fun e => ?_)).trans (b4.block q hq)
                have := (HO.out.row.lt q e.symm).1
                omega)
              have hob : ∃ gi fa : Int, w5.heap[go]? = some (.cells #[.pointer (some ⟨g, 0, none⟩), uv, .int .i64 gi, .int .i64 fa] 56 (0, 0)) := by
                obtain ⟨gi, fa, hb⟩ := (HO3.out.below ((Below.refl _ _).alloc (Nat.le_refl _) (.cells #[.pointer (some ⟨w2.heap.size, 0, none⟩)] 57))).box
                refine ⟨gi, fa, (hgr.block go (lt_of_at hb) (fun e => ?_)).trans hb⟩
                obtain ⟨cs, hcs⟩ := own_not (HO3.out.row.alloc (.cells #[.pointer (some ⟨w2.heap.size, 0, none⟩)] 57)) e.symm
                exact cells_ne hcs hb (by decide) rfl
              obtain ⟨gi5, fa5, hob5⟩ := hob
              have z5 := at_cell hob5 1
              have f5 := at_frozen hob5 1
              simp only [List.getElem?_toArray, List.getElem?_cons_zero, List.getElem?_cons_succ] at z5
              have zl5 := lt_of_at hob5
              refine hK _ _ ?_
              clear hrun hown hgr hat ho6 hrr6 hob5 z4
              clear hK K
              try simp only [Act.put, List.setIfInBounds_toArray, List.set_cons_zero, List.set_cons_succ, List.getElem_toArray, List.getElem_cons_zero, List.getElem_cons_succ]
              refine wpAny_take (i := 13) (v := ?v13_7) rfl (by kernel_rfl) (by kernel_rfl) (by kernel_rfl) (fun _ _ _ h => h) (Or.inl ⟨by rfl, ?hy13_7⟩) ?rest13_7
              case hy13_7 => (intro w; go_simp; (try with_reducible rfl))
              try simp only [Act.put, List.setIfInBounds_toArray, List.set_cons_zero, List.set_cons_succ, List.getElem_toArray, List.getElem_cons_zero, List.getElem_cons_succ]
              refine wpAny_take (i := 14) (v := ?v14_8) rfl (by kernel_rfl) (by kernel_rfl) (by kernel_rfl) (fun _ _ _ h => h) (Or.inl ⟨by rfl, ?hy14_8⟩) ?rest14_8
              case hy14_8 => (intro w; go_simp; (try with_reducible rfl))
              try simp only [Act.put, List.setIfInBounds_toArray, List.set_cons_zero, List.set_cons_succ, List.getElem_toArray, List.getElem_cons_zero, List.getElem_cons_succ]
              refine wpAny_ready (rs := [15]) (by kernel_rfl) (by simp) ?_
              refine AllReady.cons rfl (fun K hK => ?_) AllReady.nil
              go_simp
              refine hK _ _ ?_
              clear hK K
              try simp only [Act.put, List.setIfInBounds_toArray, List.set_cons_zero, List.set_cons_succ, List.getElem_toArray, List.getElem_cons_zero, List.getElem_cons_succ]
              refine wpAny_done (by kernel_rfl) ?_ _
              have hI : ShI B0 Z w go g gp gm seed (k + 1) (.slice A5 (us.length + 1) c5) (w5.setCell ⟨go, 1, none⟩ (.slice A5 (us.length + 1) c5)) :=
                ⟨us ++ [⟨w2.heap.size, d, r, wr.heap.size, w3.heap.size, uIdle, ([(k : Int) + 1], seed)⟩], HO6.out, by rw [List.length_append, HLEN.out]; rfl, idle_snoc (j := k) HID.out (by rw [HLEN.out, Nat.zero_add]) rfl rfl, HRR6.out, HB6.out⟩
              have HI := Lib.hid hI
              clear hI z5 f5 zl5
              go_wp2
              go_roundw
              case rel => exact ⟨k + 1, _, by go_num, by omega, HI.out⟩
              case measure => simp [intOf]; omega
            · go_simp
              refine hK _ _ ?_
              have z4 := (HO3.out.below ((Below.refl _ _).alloc (Nat.le_refl _) (.cells #[.pointer (some ⟨w2.heap.size, 0, none⟩)] 57))).users
              clear z3
              clear hK K
              try simp only [Act.put, List.setIfInBounds_toArray, List.set_cons_zero, List.set_cons_succ, List.getElem_toArray, List.getElem_cons_zero, List.getElem_cons_succ]
              refine wpAny_ready (rs := [4]) (by kernel_rfl) (by simp) ?_
              refine AllReady.cons rfl (fun K hK => ?_) AllReady.nil
              go_simp
              refine hK _ _ ?_
              clear hK K
              try simp only [Act.put, List.setIfInBounds_toArray, List.set_cons_zero, List.set_cons_succ, List.getElem_toArray, List.getElem_cons_zero, List.getElem_cons_succ]
              refine wpAny_ready (rs := [12]) (by kernel_rfl) (by simp) ?_
              refine AllReady.cons rfl (fun K hK => ?_) AllReady.nil
              rw [if_pos (by kernel_rfl)]
              obtain ⟨v5, w5, hrun, hown, hgr, hat⟩ := append_ptr (x := .pointer (some ⟨w2.heap.size, 0, none⟩)) 54 HO3.out.row rfl (by have := HO3.out.zz; have := HO3.out.zgo; omega) (by omega)
              obtain ⟨A5, c5, rfl⟩ := own_slice hown
              refine oper_append (s := .tmp 37) (x := .tmp 44) (t := 54) rfl rfl rfl hrun ?_
              have ho6 := HO.out.add (ug := w2.heap.size) (d := d) (r := r) HB3.out HU3.out ⟨hsz2, hgl⟩ ⟨by omega, by omega⟩ ⟨by omega, by omega⟩ hown hgr HRR.out
              have hrr6 : ∀ x ∈ us ++ [⟨w2.heap.size, d, r, wr.heap.size, w3.heap.size, uIdle, ([(k : Int) + 1], seed)⟩], (Value.slice A5 (us.length + 1) c5).ownBlock ≠ some x.r := by
                intro x hx e
                rw [List.mem_append] at hx
                rcases hat with hat | hat
                · rw [hat] at e
                  rcases hx with hx | hx
                  · exact HRR.out x hx e
                  · simp at hx
                    subst hx
                    have := own_lt HO.out.row r e
                    omega
                · rw [hat] at e
                  injection e with e
                  have h3 := HB3.out.size
                  rcases hx with hx | hx
                  · have h1 := (HO.out.usr.all x hx).rz
                    have h2 := (HO.out.usr.all x hx).top
                    omega
                  · simp at hx
                    subst hx
                    dsimp only at e
                    omega
              have HRR6 := Lib.hid hrr6
              have HO6 := Lib.hid ho6
              have HB6 := Lib.hid (show Below B0 w (w5.setCell ⟨go, 1, none⟩ (.slice A5 (us.length + 1) c5)) from by
                have b4 := (HBW.out.trans (HB3.out.mono (Nat.le_trans HO.out.zgo.1 (by have := HO.out.zgo; have := HO.out.zz; omega)))).alloc (by have := HO3.out.zz; have := HO3.out.zgo; omega) (.cells #[.pointer (some ⟨w2.heap.size, 0, none⟩)] 57)
                refine Below.setCell ?_ HO.out.zgo.1 _
                refine ⟨hgr.os.trans b4.os, hgr.tape.trans b4.tape, hgr.output.trans b4.output, Nat.le_trans b4.size hgr.size, fun q hq => ?_⟩
                refine (hgr.block q (Nat.lt_of_lt_of_le hq (by have := HO3.out.zz; have := HO3.out.zgo; simp; omega)) (fun e => ?_)).trans (b4.block q hq)
                have := (HO.out.row.lt q e.symm).1
                omega)
              have hob : ∃ gi fa : Int, w5.heap[go]? = some (.cells #[.pointer (some ⟨g, 0, none⟩), uv, .int .i64 gi, .int .i64 fa] 56 (0, 0)) := by
                obtain ⟨gi, fa, hb⟩ := (HO3.out.below ((Below.refl _ _).alloc (Nat.le_refl _) (.cells #[.pointer (some ⟨w2.heap.size, 0, none⟩)] 57))).box
                refine ⟨gi, fa, (hgr.block go (lt_of_at hb) (fun e => ?_)).trans hb⟩
                obtain ⟨cs, hcs⟩ := own_not (HO3.out.row.alloc (.cells #[.pointer (some ⟨w2.heap.size, 0, none⟩)] 57)) e.symm
                exact cells_ne hcs hb (by decide) rfl
              obtain ⟨gi5, fa5, hob5⟩ := hob
              have z5 := at_cell hob5 1
              have f5 := at_frozen hob5 1
              simp only [List.getElem?_toArray, List.getElem?_cons_zero, List.getElem?_cons_succ] at z5
              have zl5 := lt_of_at hob5
              refine hK _ _ ?_
              clear hrun hown hgr hat ho6 hrr6 hob5 z4
              clear hK K
              try simp only [Act.put, List.setIfInBounds_toArray, List.set_cons_zero, List.set_cons_succ, List.getElem_toArray, List.getElem_cons_zero, List.getElem_cons_succ]
              refine wpAny_take (i := 13) (v := ?v13_9) rfl (by kernel_rfl) (by kernel_rfl) (by kernel_rfl) (fun _ _ _ h => h) (Or.inl ⟨by rfl, ?hy13_9⟩) ?rest13_9
              case hy13_9 => (intro w; go_simp; (try with_reducible rfl))
              try simp only [Act.put, List.setIfInBounds_toArray, List.set_cons_zero, List.set_cons_succ, List.getElem_toArray, List.getElem_cons_zero, List.getElem_cons_succ]
              refine wpAny_take (i := 14) (v := ?v14_10) rfl (by kernel_rfl) (by kernel_rfl) (by kernel_rfl) (fun _ _ _ h => h) (Or.inl ⟨by rfl, ?hy14_10⟩) ?rest14_10
              case hy14_10 => (intro w; go_simp; (try with_reducible rfl))
              try simp only [Act.put, List.setIfInBounds_toArray, List.set_cons_zero, List.set_cons_succ, List.getElem_toArray, List.getElem_cons_zero, List.getElem_cons_succ]
              refine wpAny_ready (rs := [15]) (by kernel_rfl) (by simp) ?_
              refine AllReady.cons rfl (fun K hK => ?_) AllReady.nil
              go_simp
              refine hK _ _ ?_
              clear hK K
              try simp only [Act.put, List.setIfInBounds_toArray, List.set_cons_zero, List.set_cons_succ, List.getElem_toArray, List.getElem_cons_zero, List.getElem_cons_succ]
              refine wpAny_done (by kernel_rfl) ?_ _
              have hI : ShI B0 Z w go g gp gm seed (k + 1) (.slice A5 (us.length + 1) c5) (w5.setCell ⟨go, 1, none⟩ (.slice A5 (us.length + 1) c5)) :=
                ⟨us ++ [⟨w2.heap.size, d, r, wr.heap.size, w3.heap.size, uIdle, ([(k : Int) + 1], seed)⟩], HO6.out, by rw [List.length_append, HLEN.out]; rfl, idle_snoc (j := k) HID.out (by rw [HLEN.out, Nat.zero_add]) rfl rfl, HRR6.out, HB6.out⟩
              have HI := Lib.hid hI
              clear hI z5 f5 zl5
              go_wp2
              go_roundw
              case rel => exact ⟨k + 1, _, by go_num, by omega, HI.out⟩
              case measure => simp [intOf]; omega

    · obtain rfl : k = nn + 1 := by omega
      obtain ⟨ru, cu, rfl⟩ := own_none hO.row (by omega)
      rw [hlen] at hO
      have hG0 : GvI B0 Z w go g gp gm seed nn 0 (.slice (some ⟨ru, 0, none⟩) (nn + 1) cu) wr := ⟨[], us, hO, rfl, by simpa using hlen, trivial, hid, hbw⟩
      have HG0 := Lib.hid hG0
      have z0 := hO.users
      have hcu : nn + 1 ≤ cu := own_cap hO.row
      clear hG0 hO hid hrr hbw hlen
      go_wp2_with fail
      go_loopw [56] (fun i wr => ∃ k : Nat, i = .int .i64 (k : Int) ∧ k ≤ nn ∧ GvI B0 Z w go g gp gm seed nn k (.slice (some ⟨ru, 0, none⟩) (nn + 1) cu) wr) (fun i _ => nn - (intOf i).toNat)
      case atStart => exact ⟨0, rfl, Nat.zero_le _, HG0.out⟩
      case round =>
        clear HG0 z0
        obtain ⟨k, rfl, hk, dn, rest, hO, hdl, hlen, hH, hI, hbw⟩ := hrel
        by_cases hkn : k < nn
        · obtain ⟨u, rest', rfl⟩ : ∃ u r', rest = u :: r' := by
            cases rest with
            | nil => simp at hlen; omega
            | cons u r' => exact ⟨u, r', rfl⟩
          obtain ⟨hi1, hi2, hi3⟩ := hI
          have hful : (dn ++ u :: rest').length = nn + 1 := by rw [List.length_append]; exact hlen
          have hrow := hO.row
          rw [hful] at hrow
          have p0 := own_at hrow k _ (ptrs_get _ k u (by rw [List.getElem?_append_right (by omega), hdl]; simp))
          have hU := (hO.usr.all u (by simp)).at_
          rw [hi1, hi2] at hU
          have HO := Lib.hid hO
          have HBW := Lib.hid hbw
          have HH := Lib.hid hH
          have HI3 := Lib.hid hi3
          have HU := Lib.hid hU
          have hk9 : k ≤ 9 := by omega
          have hB0w : B0 ≤ wr.heap.size := by have := hO.zgo; have := hO.zz; omega
          clear hO hbw hH hi3 hU hrow
          go_wp2_with fail
          refine (want_any _ HU.out).mono ?_
          rw [want_idle (u.d, u.r) k seed (by omega)]
          rintro e w2 ⟨v2, rfl, d1, d2, d3⟩
          have hO2 := HO.out.turn (d := ⟨[⟨0, 1, (k : Int) + 1, 127, 0⟩, ⟨4, 0, 0, 0, 0⟩], 0, ⟨-1, true, (k : Int) + 1, 1⟩, ([], seed)⟩) d3 d2
          have hb2 : Below B0 w w2 := HBW.out.trans (d3.below hB0w (by
            have h1 := HO.out.usr.all u (by simp)
            have := h1.gz; have := h1.dz; have := h1.low; have := HO.out.zgo
            simp [uset, dset]; omega))
          have HO2 := Lib.hid hO2
          have HB2 := Lib.hid hb2
          have HD1 := Lib.hid d1
          clear d1 d2 d3 hO2 hb2 p0
          go_wp2_with fail
          obtain ⟨gi2, fa2, hob2⟩ := HO2.out.box
          refine (hear_any w2 hob2 HO2.out.src HD1.out (by simp) (hear_want k hk9 _ _) (by simp)).mono ?_
          rintro e w3 ⟨v3, rfl, q1, q2, q3⟩
          have hO3 := HO2.out.heard q2 q3
          have hB0w2 : B0 ≤ w2.heap.size := by have := HO2.out.zgo; have := HO2.out.zz; omega
          have HO3 := Lib.hid hO3
          have HB3 := Lib.hid (HB2.out.trans (q3.below hB0w2 (by have := HO2.out.zgp; have := HO2.out.zgm; simp; omega)))
          have HQ1 := Lib.hid q1
          clear q1 q2 q3 hO3 hob2
          go_wp2_with fail
          refine (say_any w3 HO3.out HQ1.out (by have := HO3.out.zgo; have := HO3.out.zz; omega) (by simp) (by simp; simp at hlen; omega) (given_round (seed := seed) hk9 HH.out hdl rfl HI3.out) (by omega)).mono ?_
          rintro e w4 ⟨rfl, hO4, b4⟩
          have hG : GvI B0 Z w go g gp gm seed nn (k + 1) (.slice (some ⟨ru, 0, none⟩) (nn + 1) cu) w4 := by
            refine ⟨dn ++ [{ u.turn ⟨[⟨0, 1, (k : Int) + 1, 127, 0⟩, ⟨4, 0, 0, 0, 0⟩], 0, ⟨-1, true, (k : Int) + 1, 1⟩, ([], seed)⟩ with s := got k }], rest', ?_, by simp [hdl], by simp at hlen ⊢; omega, HH.out.snoc (by simp [hdl]), HI3.out, HB3.out.trans b4⟩
            rw [List.append_assoc]
            exact hO4
          have HG := Lib.hid hG
          clear hO4 b4 hG
          go_wp2
          go_roundw
          case rel =>
            (repeat apply Exists.intro)
            exact ⟨⟨k + 1, by go_num, by omega, HG.out⟩, rfl⟩
          case measure => simp [intOf]; omega
        · obtain rfl : k = nn := by omega
          obtain ⟨la, rfl⟩ : ∃ la, rest = [la] := by
            match rest, hlen with
            | [], h => simp at h; omega
            | [x], _ => exact ⟨x, rfl⟩
            | x :: y :: r, h => simp at h; omega
          obtain ⟨pw, ww, m1, m2, m3, m4, -⟩ := rounds_of who (k : Int) (by omega)
          have hww : ww < k := by omega
          obtain ⟨hi1, hi2, -⟩ := hI
          have hful : (dn ++ [la]).length = k + 1 := by rw [List.length_append]; exact hlen
          obtain ⟨uw, huw⟩ : ∃ uw, dn[ww]? = some uw := ⟨dn[ww]'(by omega), List.getElem?_eq_getElem (by omega)⟩
          have huws := hH.at ww uw huw
          rw [Nat.zero_add] at huws
          have hmem : uw ∈ dn ++ [la] := List.mem_append_left _ (List.mem_of_getElem? huw)
          have hUw := (hO.usr.all uw hmem).at_
          rw [huws] at hUw
          have hrow := hO.row
          rw [hful] at hrow
          have pw0 := own_at hrow ww _ (ptrs_get _ ww uw (by rw [List.getElem?_append_left (by omega)]; exact huw))
          have zu := hO.users
          have HO := Lib.hid hO
          have HBW := Lib.hid hbw
          have HH := Lib.hid hH
          have HUW := Lib.hid (hUw.below (Below.refl wr.heap.size wr).drew)
          have HROW := Lib.hid hrow
          have hB0w : B0 ≤ wr.heap.size := by have := hO.zgo; have := hO.zz; omega
          have i0 : (0 : Int) ≤ (ww : Int) := by omega
          have i1 : (ww : Int) < (k : Int) + 1 := by omega
          clear hO hbw hH hUw hrow
          go_upto_region 16 with (fail)
          go_cut [13] (fun s wc => s = .int .i64 (64 + (ww : Int)) ∧ Below wr.heap.size wr wc)
          case first =>
            go_region_with (go_at_call 21; refine (view_lit (tei := 64 + (ww : Int)) (asking := false) (ri := 0) (tries := 0) _ HUW.out).mono ?_; rintro e w2 ⟨rfl, b2⟩; have HB2 := Lib.hid b2; clear b2)
            all_goals
              have HBF := Lib.hid ((Below.refl wr.heap.size wr).drew.trans HB2.out)
              clear HB2
              go_wp2_with fail
              go_meet
              case rel => exact ⟨rfl, HBF.out⟩
          case rest =>
            obtain ⟨rfl, hb0⟩ := hcut
            have HO2 := Lib.hid (HO.out.below hb0)
            have HBW2 := Lib.hid (HBW.out.trans (hb0.mono hB0w))
            have hrowc := own_keep HROW.out (fun q hq => hb0.block q (own_lt HROW.out q hq))
            have pl0 := own_at hrowc k _ (ptrs_get _ k la (by rw [List.getElem?_append_right (by omega), hdl]; simp))
            have zu2 := HO2.out.users
            have hUl := (HO2.out.usr.all la (by simp)).at_
            rw [hi1, hi2] at hUl
            have HUL := Lib.hid hUl
            have j0 : (0 : Int) ≤ (k : Int) := by omega
            have j1 : (k : Int) < (k : Int) + 1 := by omega
            have hB02 : B0 ≤ wc.heap.size := by have := HO2.out.zgo; have := HO2.out.zz; omega
            clear hb0 hrowc hUl pw0 zu
            go_wp2_with fail
            refine (want_any _ HUL.out).mono ?_
            rw [want_idle (la.d, la.r) k seed (by omega)]
            rintro e w3 ⟨v3, rfl, d1, d2, d3⟩
            have hO3 := HO2.out.turn (b := []) (d := ⟨[⟨0, 1, (k : Int) + 1, 127, 0⟩, ⟨4, 0, 0, 0, 0⟩], 0, ⟨-1, true, (k : Int) + 1, 1⟩, ([], seed)⟩) d3 d2
            have hb3 : Below B0 w w3 := HBW2.out.trans (d3.below hB02 (by
              have h1 := HO2.out.usr.all la (by simp)
              have := h1.gz; have := h1.dz; have := h1.low; have := HO2.out.zgo
              simp [uset, dset]; omega))
            have HU3 := Lib.hid d2
            have HO3 := Lib.hid hO3
            have HB3 := Lib.hid hb3
            clear d1 d2 d3 hO3 hb3 pl0 zu2
            go_wp2_with fail
            refine (view_lit (tei := -1) (asking := true) (ri := (k : Int) + 1) (tries := 1) _ HU3.out).mono ?_
            rintro e w4 ⟨rfl, b4⟩
            have HU4 := Lib.hid (HU3.out.below b4)
            have HO4 := Lib.hid (HO3.out.below b4)
            have HB4 := Lib.hid (HB3.out.trans (b4.mono (by have := HO3.out.zgo; have := HO3.out.zz; omega)))
            clear b4
            go_wp2_with fail
            refine (message_any 2 ((k : Int) + 1) (64 + (ww : Int)) _ HU4.out).mono ?_
            have e2 : uMsg (some (la.d, la.r)) ⟨-1, true, (k : Int) + 1, 1⟩ ([], seed) 2 ((k : Int) + 1) (64 + (ww : Int)) = ⟨[⟨5, 0, 0, 0, 0⟩, ⟨1, 0, 0, 0, 64 + (ww : Int)⟩], 0, got ww, ([], seed)⟩ := by
              unfold uMsg
              rw [if_neg (by rw [putE_in (by omega) (by omega) (by omega) (by omega) (by omega) (by omega)]; simp), if_pos ⟨rfl, rfl, rfl, by omega, by omega⟩]
              rfl
            rw [e2]
            clear e2
            rintro e w5 ⟨v5, rfl, d1, d2, d3⟩
            have hO5 := HO4.out.turn (b := []) (d := ⟨[⟨5, 0, 0, 0, 0⟩, ⟨1, 0, 0, 0, 64 + (ww : Int)⟩], 0, got ww, ([], seed)⟩) d3 d2
            have hb5 : Below B0 w w5 := HB4.out.trans (d3.below (by have := HO4.out.zgo; have := HO4.out.zz; omega) (by
              have h1 := HO4.out.usr.all _ (List.mem_append_right _ (List.mem_singleton.2 rfl))
              have z1 : la.lo ≤ la.g ∧ la.g < la.hi := h1.gz
              have z2 : la.lo ≤ la.d ∧ la.d < la.hi := h1.dz
              have z3 : Z ≤ la.lo := h1.low
              have z4 := HO4.out.zgo
              simp [uset, dset]; omega))
            have HU5 := Lib.hid (show UAt w5 la.g (some (la.d, la.r)) 3 ⟨64 + (ww : Int), false, 0, 0⟩ ([], seed) from d2)
            have HO5 := Lib.hid hO5
            have HB5 := Lib.hid hb5
            clear d1 d2 d3 hO5 hb5
            go_wp2_with fail
            refine (view_lit _ HU5.out).mono ?_
            rintro e w6 ⟨rfl, b6⟩
            have HO6 := Lib.hid (HO5.out.below b6)
            have HB6 := Lib.hid (HB5.out.trans (b6.mono (by have := HO5.out.zgo; have := HO5.out.zz; omega)))
            have zs := HO6.out.source
            clear b6
            go_wp2_with fail
            have haud := audit_any _ HO6.out.src (show (0 : Nat) < 1000000 by decide)
            obtain ⟨L, hL⟩ : ∃ L, listB (bitsN k) 63 = L := ⟨_, rfl⟩
            dsimp only at haud
            rw [hL] at haud
            have HL := Lib.hid hL
            have HAUD := Lib.hid haud
            clear haud hL
            refine HAUD.out.mono ?_
            rintro e w7 ⟨v7, rfl, q1, q2, q3⟩
            have hO7 := HO6.out.heard (s' := ⟨bitsN k, lastN k, auditF (fun _ => none) L, 0 + L.length⟩) q2 (q3.mono (by simp))
            have HO7 := Lib.hid hO7
            have HB7 := Lib.hid (HB6.out.trans (q3.below (by have := HO6.out.zgo; have := HO6.out.zz; omega) (by have := HO6.out.zgm; simp; omega)))
            have HQ7 := Lib.hid q1
            clear q1 q2 q3 hO7 zs
            have hLk : L = (List.range k).map fun j : Nat => 64 + (j : Int) := by rw [← HL.out, listB_bitsN k (by omega)]
            have hLl : L.length = k := by rw [hLk]; simp
            obtain ⟨s', us', hS, hsB, hsf, hul, hlost⟩ := audit_says (n := k) (w := ww) (s := ⟨bitsN k, lastN k, auditF (fun _ => none) L, 0 + L.length⟩) (la := (la.turn ⟨[⟨0, 1, (k : Int) + 1, 127, 0⟩, ⟨4, 0, 0, 0, 0⟩], 0, ⟨-1, true, (k : Int) + 1, 1⟩, ([], seed)⟩).turn ⟨[⟨5, 0, 0, 0, 0⟩, ⟨1, 0, 0, 0, 64 + (ww : Int)⟩], 0, got ww, ([], seed)⟩) ⟨by omega, by omega⟩ hww HH.out hdl rfl rfl (by rw [hLk]; exact answ_start k) (by rw [hLl]; show 0 + k ≤ 100; omega)
            rw [HL.out] at hS
            have HS := Lib.hid hS
            have HSF := Lib.hid hsf
            have HLOST := Lib.hid hlost
            have HSB := Lib.hid hsB
            clear hS hsf hlost hsB hLk
            go_wp2_with fail
            refine (say_any w7 HO7.out HQ7.out (by have := HO7.out.zgo; have := HO7.out.zz; omega) (by rw [auditL_length, hLl]; omega) (by simp; omega) HS.out (by omega)).mono ?_
            rintro e w8 ⟨rfl, hO8, b8⟩
            have HO8 := Lib.hid hO8
            have HB8 := Lib.hid (HB7.out.trans b8)
            clear hO8 b8
            go_wp2_with fail
            go_loopw [111] (fun i wr => ∃ (t : Nat) (sx : SS), i = .int .i64 (t : Int) ∧ t ≤ 128 ∧ OffAt B0 Z wr go g gp gm sx us' (.slice (some ⟨ru, 0, none⟩) (k + 1) cu) ∧ sx.B = s'.B ∧ (∀ x, sx.f x = none ∨ sx.f x = some (x, 1, 1)) ∧ Below B0 w wr) (fun i _ => 128 - (intOf i).toNat)
            case atStart => exact ⟨0, s', rfl, by omega, HO8.out, rfl, HSF.out, HB8.out⟩
            case round =>
              clear HO8 HB8
              obtain ⟨t, sx, rfl, ht, hO, hxB, hxf, hbw⟩ := hrel
              have zs := hO.source
              have hB0w : B0 ≤ wr.heap.size := by have := hO.zgo; have := hO.zz; omega
              by_cases ht8 : t < 128
              · have ht8' : (t : Int) < 128 := by omega
                have htm : ∃ sy : SS, sy.B = s'.B ∧ (∀ x, sy.f x = none ∨ sy.f x = some (x, 1, 1)) ∧ Calls Tryd.prog 24 #[.pointer (some ⟨g, 0, none⟩), .int .i64 (t : Int)] wr fun e w' => e = .returned (.slice none 0 0) ∧ SAt w' g gp gm sy ∧ Only [gm] wr w' := by
                  rcases hxf (t : Int) with hf | hf
                  · exact ⟨sx, hxB, hxf, stimeout_none (t : Int) wr hO.src (by omega) hf⟩
                  · refine ⟨⟨sx.B, sx.last, chkPut sx.f (t : Int) none, sx.n⟩, hxB, fun x => ?_, stimeout_one (t : Int) wr hO.src (by omega) hf⟩
                    by_cases e : x = (t : Int)
                    · subst e; exact Or.inl (chkPut_at _ _ _)
                    · have := hxf x
                      rw [← chkPut_other (f := sx.f) (c := none) e] at this
                      exact this
                obtain ⟨sy, hyB, hyf, hcall⟩ := htm
                have HO := Lib.hid hO
                have HYF := Lib.hid hyf
                have HYB := Lib.hid hyB
                have HC := Lib.hid hcall
                have HBW := Lib.hid hbw
                clear hO hyf hcall hxf hxB hbw hyB
                go_wp2_with fail
                refine HC.out.mono ?_
                rintro e w2 ⟨rfl, q1, q2⟩
                have HO2 := Lib.hid (HO.out.heard q1 (q2.mono (by simp)))
                have HB2 := Lib.hid (HBW.out.trans (q2.below hB0w (by have := HO.out.zgm; simp; omega)))
                clear q1 q2 zs
                go_wp2_with fail
                refine (say_any (Bl := 0) (l := []) w2 HO2.out (own_nil _ _ _ _) (by have := HO2.out.zgo; have := HO2.out.zz; omega) (by simp) (by omega) (.done .nil) (by omega)).mono ?_
                rintro e w3 ⟨rfl, hO3, b3⟩
                have HO3 := Lib.hid hO3
                have HB3 := Lib.hid (HB2.out.trans b3)
                clear hO3 b3
                go_wp2
                go_roundw
                case rel => exact ⟨t + 1, sy, by go_num, by omega, HO3.out, HYB.out, HYF.out, HB3.out⟩
                case measure => simp [intOf]; omega
              · have ht128 : ¬ ((t : Int) < 128) := by omega
                have zu := hO.users
                have HO := Lib.hid hO
                have HXB := Lib.hid hxB
                have HBW := Lib.hid hbw
                clear hO hxf hxB hbw
                go_wp2_with fail
                clear ht8 ht128 ht
                go_loopw [128] (fun i wr => ∃ t : Nat, i = .int .i64 (t : Int) ∧ t ≤ k + 1 ∧ OffAt B0 Z wr go g gp gm sx us' (.slice (some ⟨ru, 0, none⟩) (k + 1) cu) ∧ Below B0 w wr) (fun i _ => k + 1 - (intOf i).toNat)
                case atStart => exact ⟨0, rfl, by omega, HO.out, HBW.out⟩
                case round =>
                  clear HO HBW zs zu
                  obtain ⟨t, rfl, ht, hO, hbw⟩ := hrel
                  by_cases htk : t < k + 1
                  · have htk' : (t : Int) < (k : Int) + 1 := by omega
                    obtain ⟨u, hu⟩ : ∃ u, us'[t]? = some u := ⟨us'[t]'(by omega), List.getElem?_eq_getElem (by omega)⟩
                    have hrow := hO.row
                    rw [hul] at hrow
                    have p0 := own_at hrow t _ (ptrs_get _ t u hu)
                    have hU := (hO.usr.all u (List.mem_of_getElem? hu)).at_
                    have hls := HLOST.out t u hu
                    obtain ⟨⟨tei, askg, ri, tr⟩, hst⟩ : ∃ x, u.s = x := ⟨_, rfl⟩
                    rw [hst] at hU hls
                    dsimp only at hls
                    have HO := Lib.hid hO
                    have HU := Lib.hid hU
                    have HBW := Lib.hid hbw
                    have HLS := Lib.hid hls
                    have hB0w : B0 ≤ wr.heap.size := by have := hO.zgo; have := hO.zz; omega
                    clear hO hU hbw hrow hls hu
                    by_cases hl : t = k ∨ t = ww
                    · have hneg : decide (tei < 0) = true := decide_eq_true (HLS.out.2 hl)
                      by_cases hl1 : t = k
                      · have q1 : ((t : Int) == (k : Int)) = true := by simp; omega
                        clear hl hl1
                        go_wp2_with fail
                        refine (view_lit _ HU.out).mono ?_
                        rintro e w2 ⟨rfl, b2⟩
                        have HO2 := Lib.hid (HO.out.below b2)
                        have HB2 := Lib.hid (HBW.out.trans (b2.mono hB0w))
                        clear b2
                        go_wp2
                        go_roundw
                        case rel => exact ⟨t + 1, by go_num, by omega, HO2.out, HB2.out⟩
                        case measure => simp [intOf]; omega
                      · have hl2 : t = ww := hl.resolve_left hl1
                        have q1 : ((t : Int) == (k : Int)) = false := by simp; omega
                        have q2 : ((t : Int) == (ww : Int)) = true := by simp; omega
                        clear hl hl1 hl2
                        go_wp2_with fail
                        refine (view_lit _ HU.out).mono ?_
                        rintro e w2 ⟨rfl, b2⟩
                        have HO2 := Lib.hid (HO.out.below b2)
                        have HB2 := Lib.hid (HBW.out.trans (b2.mono hB0w))
                        clear b2
                        go_wp2
                        go_roundw
                        case rel => exact ⟨t + 1, by go_num, by omega, HO2.out, HB2.out⟩
                        case measure => simp [intOf]; omega
                    · have hpos : decide (tei < 0) = false := decide_eq_false (fun h => hl (HLS.out.1 h))
                      have q1 : ((t : Int) == (k : Int)) = false := by simp; omega
                      have q2 : ((t : Int) == (ww : Int)) = false := by simp; omega
                      go_wp2_with fail
                      refine (view_lit _ HU.out).mono ?_
                      rintro e w2 ⟨rfl, b2⟩
                      have HO2 := Lib.hid (HO.out.below b2)
                      have HB2 := Lib.hid (HBW.out.trans (b2.mono hB0w))
                      clear b2
                      go_wp2
                      go_roundw
                      case rel => exact ⟨t + 1, by go_num, by omega, HO2.out, HB2.out⟩
                      case measure => simp [intOf]; omega
                  · obtain rfl : t = k + 1 := by omega
                    have zs := hO.source
                    have hB0w : B0 ≤ wr.heap.size := by have := hO.zgo; have := hO.zz; omega
                    have hlist := slist_any _ hO.src
                    have hll : (listB sx.B 63).length = k - 1 := by rw [HXB.out, HSB.out]; exact free_length k ww (by omega) hww
                    rw [hll] at hlist
                    have HLI := Lib.hid hlist
                    have HBW := Lib.hid hbw
                    clear hO hbw hlist hll
                    go_wp2_with fail
                    refine HLI.out.mono ?_
                    rintro e w2 ⟨A, c, rfl, -, b2⟩
                    have HB2 := Lib.hid (HBW.out.trans (b2.mono hB0w))
                    have hkk : ((k - 1 : Nat) : Int) = (k : Int) - 1 := by omega
                    clear b2
                    go_wp2
                    go_ret
                    exact ⟨ret_bool (by simp), HB2.out⟩
end Go.Proofs.YtlfcfmdblmedcaaDoor.Mine
