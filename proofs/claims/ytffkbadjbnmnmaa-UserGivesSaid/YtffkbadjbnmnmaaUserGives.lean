/- UserGives's walk. -/
import Derived.Test.YtffkbadjbnmnmaaUserDeaf
namespace Go.Proofs.Ytffkbadjbnmnmaa.Mine
open Go.RowKit Go.Proofs.YtffkbadjbnmnmaaW.PrintWords

/-- Behind k tries: it has asked k + 1 times, the last is not counted; or it has failed. -/
def GivesInv (w : World) (g d r : Nat) (most : Int) (i l asked : Value) (wr : World) : Prop :=
  ∃ (k : Nat) (st : Int), i = .int .i64 k ∧ asked = .int .i64 k ∧ Below w.heap.size w wr ∧
    ((∃ ri n : Int, (k : Int) + 1 ≤ most ∧ UAt wr g (some (d, r)) most ⟨-1, true, ri, (k : Int) + 1⟩ ([], st) ∧ Efs w.heap.size wr l [⟨0, 1, n, 127, 0⟩, ⟨4, 0, 0, 0, 0⟩]) ∨
      ((k : Int) = most ∧ UAt wr g (some (d, r)) most uIdle ([], st) ∧ Efs w.heap.size wr l [⟨3, 0, 0, 0, 0⟩]))

/-- Within the two effects of an asking. -/
def GivesIn (w : World) (g d r b : Nat) (most ri nx st : Int) (k : Nat) (j a : Value) (wr : World) : Prop :=
  UAt wr g (some (d, r)) most ⟨-1, true, ri, (k : Int) + 1⟩ ([], st) ∧ Below w.heap.size w wr ∧
    wr.heap[b]? = some (.cells #[.int .i64 0, .int .i64 1, .int .i64 nx, .int .i64 127, .int .i64 0, .int .i64 4, .int .i64 0, .int .i64 0, .int .i64 0, .int .i64 0] 39 (0, 0)) ∧
    ((j = .int .i64 0 ∧ a = .int .i64 k) ∨ (j = .int .i64 1 ∧ a = .int .i64 ((k : Int) + 1)) ∨ (j = .int .i64 2 ∧ a = .int .i64 ((k : Int) + 1)))

theorem gives_time {w wr w' : World} {g d r k : Nat} {most ri st : Int} {v : Value} (hS : ∀ x ∈ uset g (some (d, r)), w.heap.size ≤ x) (hb : Below w.heap.size w wr) (hk : (k : Int) + 1 ≤ most)
    (h : Done wr g (some (d, r)) most (uTimeout (some (d, r)) most ⟨-1, true, ri, (k : Int) + 1⟩ ([], st)) v w') : GivesInv w g d r most (.int .i64 ((k : Int) + 1)) v (.int .i64 ((k : Int) + 1)) w' := by
  obtain ⟨h1, h2, h3⟩ := h
  have hb' := hb.trans (h3.below hb.size hS)
  by_cases hm : (k : Int) + 1 = most
  · have e : uTimeout (some (d, r)) most ⟨-1, true, ri, (k : Int) + 1⟩ ([], st) = ⟨[⟨3, 0, 0, 0, 0⟩], 0, uIdle, ([], st)⟩ := by unfold uTimeout; rw [if_pos rfl, if_pos hm]
    rw [e] at h1 h2
    exact ⟨k + 1, st, by go_num, by go_num, hb', Or.inr ⟨by omega, h2, h1.mono hb.size⟩⟩
  · have e : uTimeout (some (d, r)) most ⟨-1, true, ri, (k : Int) + 1⟩ ([], st) = ⟨[⟨0, 1, (nxt ([], st)).1, 127, 0⟩, ⟨4, 0, 0, 0, 0⟩], 0, ⟨-1, true, (nxt ([], st)).1, (k : Int) + 1 + 1⟩, ([], lcg st)⟩ := by unfold uTimeout; rw [if_pos rfl, if_neg hm]; rfl
    rw [e] at h1 h2
    refine ⟨k + 1, lcg st, by go_num, by go_num, hb', Or.inl ⟨(nxt ([], st)).1, (nxt ([], st)).1, by omega, ?_, h1.mono hb.size⟩⟩
    have e2 : (((k + 1 : Nat) : Int) + 1) = (k : Int) + 1 + 1 := by omega
    rw [e2]; exact h2

theorem denied_none (D : Dr) (ri tries : Int) (p : Pn) : uMsg D ⟨-1, true, ri, tries⟩ p 3 ri 127 = ⟨[], 0, ⟨-1, true, ri, tries⟩, p⟩ := by
  unfold uMsg
  have hk : ¬ uTakes ⟨-1, true, ri, tries⟩ 3 ri 127 := fun h => by have := h.1; omega
  have hm : ¬ uMine ⟨-1, true, ri, tries⟩ 127 := fun h => h.1 rfl
  split
  · rfl
  · first
      | (rw [if_neg hk, if_neg (fun h => hm h.1), if_neg (fun h => hm h.1)]; done)
      | rw [if_neg (fun h => hm h.1), if_neg (fun h => hm h.1)]

attribute [local go_sem] max_int min_int max_of_two min_of_two
set_option maxHeartbeats 2000000 in
set_option maxRecDepth 100000 in
theorem gives_any {A : Option Addr} {n c : Nat} {l : List Bool} (n202 seed : Int) (w : World) (hl : l.length = n) (hR : ReadsUBools w A l) (_hc : n ≤ c) (hn : n ≤ 9223372036854775807) :
    Calls Try.prog 4 #[.int .i64 n202, .int .u64 seed, .slice A n c] w fun e w' => e = .returned (.bool true) ∧ Below w.heap.size w w' := by
  obtain ⟨most, hmost⟩ : ∃ most, max 1 (min n202 32) = most := ⟨_, rfl⟩
  have HM := Lib.hid hmost
  have hmr : 1 ≤ most ∧ most ≤ 32 := by omega
  clear hmost
  go_enter Try.func4, Try.ntmps4
  go_wp2_with fail
  refine (drawNew_any seed _ (reads_none _) (by decide)).mono ?_
  rintro e w1 ⟨d, r, rfl, hd, hr, hr2, hs, b1⟩
  have hs1 := src_sr (p := ([], seed)) hs hr2
  clear hs
  go_wp2_with fail
  refine (new_any (D := some (d, r)) (p := ([], seed)) n202 _ hs1).mono ?_
  rw [HM.out]
  rintro e w2 ⟨rfl, h2, b2⟩
  have hg := b1.size
  have hS := uset_new (r := r) hg hd
  have B2 := b1.trans (b2.mono b1.size)
  generalize w1.heap.size = g at h2 hS hg b2
  clear b1 hs1 b2
  go_wp2_with fail
  refine (want_any _ h2).mono ?_
  have e1 : uWant (some (d, r)) uIdle ([], seed) = ⟨[⟨0, 1, (nxt ([], seed)).1, 127, 0⟩, ⟨4, 0, 0, 0, 0⟩], 0, ⟨-1, true, (nxt ([], seed)).1, 1⟩, ([], lcg seed)⟩ := by rfl
  rw [e1]
  rintro e w3 ⟨v, rfl, he, h3, o3⟩
  have he3 := he.mono (B' := w.heap.size) B2.size
  have B3 := B2.trans (o3.below B2.size hS)
  clear e1 h2 o3 B2 he
  replace h3 : UAt w3 g (some (d, r)) most ⟨-1, true, (nxt ([], seed)).1, ((0 : Nat) : Int) + 1⟩ ([], lcg seed) := h3
  go_wp2_with fail
  go_loopw [23, 8, 10] (fun i l a wr => GivesInv w g d r most i l a wr) (fun i _ _ _ => 34 - (intOf i).toNat)
  case atStart => exact ⟨0, lcg seed, rfl, rfl, B3, Or.inl ⟨_, _, by omega, h3, he3⟩⟩
  case round =>
    clear h3 he3 B3
    obtain ⟨k, st, rfl, rfl, hb, hA | hB⟩ := hrel
    · obtain ⟨ri, nx, hk, hU, ⟨Ae, ce, rfl, he⟩⟩ := hA
      obtain ⟨b, rfl, hbB, hbb⟩ := he.resolve_left (by simp)
      clear he
      replace hbb : wr.heap[b]? = some (.cells #[.int .i64 0, .int .i64 1, .int .i64 nx, .int .i64 127, .int .i64 0, .int .i64 4, .int .i64 0, .int .i64 0, .int .i64 0, .int .i64 0] 39 (0, 0)) := hbb
      go_wp2_with fail
      go_loopw [28, 10] (fun j a wr => GivesIn w g d r b most ri nx st k j a wr) (fun j _ _ => 2 - (intOf j).toNat)
      case atStart => exact ⟨hU, hb, hbb, Or.inl ⟨rfl, rfl⟩⟩
      case round =>
        clear hU hb hbb
        obtain ⟨hU, hb, hbb, hj⟩ := hrel
        have x0 := at_cell hbb 0
        have x1 := at_cell hbb 1
        have x2 := at_cell hbb 2
        have x3 := at_cell hbb 3
        have x4 := at_cell hbb 4
        have x5 := at_cell hbb 5
        have x6 := at_cell hbb 6
        have x7 := at_cell hbb 7
        have x8 := at_cell hbb 8
        have x9 := at_cell hbb 9
        simp at x0 x1 x2 x3 x4 x5 x6 x7 x8 x9
        rcases hj with ⟨rfl, rfl⟩ | ⟨rfl, rfl⟩ | ⟨rfl, rfl⟩
        · have hI : GivesIn w g d r b most ri nx st k (.int .i64 1) (.int .i64 ((k : Int) + 1)) (wr.alloc (.cells #[.int .i64 0, .int .i64 1, .int .i64 nx, .int .i64 127, .int .i64 0] 39)) :=
            ⟨hU.below ((Below.refl _ _).alloc (Nat.le_refl _) _), hb.alloc hb.size _, at_alloc hbb _, Or.inr (Or.inl ⟨rfl, rfl⟩)⟩
          clear hU hb hbb
          go_wp2
          go_roundw
          case rel => exact hI
          case measure => simp [intOf]
        · have hI : GivesIn w g d r b most ri nx st k (.int .i64 2) (.int .i64 ((k : Int) + 1)) (wr.alloc (.cells #[.int .i64 4, .int .i64 0, .int .i64 0, .int .i64 0, .int .i64 0] 39)) :=
            ⟨hU.below ((Below.refl _ _).alloc (Nat.le_refl _) _), hb.alloc hb.size _, at_alloc hbb _, Or.inr (Or.inr ⟨rfl, rfl⟩)⟩
          clear hU hb hbb
          go_wp2
          go_roundw
          case rel => exact hI
          case measure => simp [intOf]
        · have HU := Lib.hid hU
          have HB := Lib.hid hb
          clear hU hb hbb x0 x1 x2 x3 x4 x5 x6 x7 x8 x9
          by_cases hkn : k < n
          · obtain ⟨ad, rfl, hcell⟩ := hR (by omega)
            have c0 := hcell k (by omega)
            obtain ⟨y, hy⟩ : ∃ y, l.getD k false = y := ⟨_, rfl⟩
            rw [hy] at c0
            have d0 := (HB.out.cell (World.block_lt_of_cell? w _ c0)).trans c0
            clear hy c0 hcell
            rcases y with _ | _
            · go_wp2_with fail
              refine (timeout_any _ HU.out).mono ?_
              rintro e wt ⟨vt, rfl, hdone⟩
              have hI := gives_time hS HB.out hk hdone
              clear hdone
              go_wp2
              go_roundw
              case rel => exact hI
              case measure => simp [intOf]; omega
            · go_wp2_with fail
              refine (view_lit _ HU.out).mono ?_
              rintro e wb ⟨rfl, bb⟩
              have hU2 := HU.out.below bb
              have hB2 := HB.out.trans (bb.mono HB.out.size)
              have HU2 := Lib.hid hU2
              have HB2 := Lib.hid hB2
              have hf2 := fun W => field_lit2 (tei := -1) (ri := ri) (tries := (k : Int) + 1) (asking := true) W
              clear bb hU2 hB2
              go_wp2_with fail
              refine (message_any 3 ri 127 _ HU2.out).mono ?_
              rw [denied_none]
              rintro e wm ⟨vm, rfl, ⟨Am, cm, rfl, -⟩, hU3, o3⟩
              have hB3 := HB2.out.trans (o3.below HB2.out.size hS)
              have HU3 := Lib.hid hU3
              have HB3 := Lib.hid hB3
              clear hU3 hB3 o3
              go_wp2_with fail
              refine (timeout_any _ HU3.out).mono ?_
              rintro e wt ⟨vt, rfl, hdone⟩
              have hI := gives_time hS HB3.out hk hdone
              clear hdone
              go_wp2
              go_roundw
              case rel => exact hI
              case measure => simp [intOf]; omega
          · go_wp2_with fail
            refine (timeout_any _ HU.out).mono ?_
            rintro e wt ⟨vt, rfl, hdone⟩
            have hI := gives_time hS HB.out hk hdone
            clear hdone
            go_wp2
            go_roundw
            case rel => exact hI
            case measure => simp [intOf]; omega
    · obtain ⟨hk, hU, ⟨Ae, ce, rfl, he⟩⟩ := hB
      obtain ⟨b, rfl, hbB, hbb⟩ := he.resolve_left (by simp)
      clear he
      replace hbb : wr.heap[b]? = some (.cells #[.int .i64 3, .int .i64 0, .int .i64 0, .int .i64 0, .int .i64 0] 39 (0, 0)) := hbb
      go_wp2_with fail
      go_loopw [28, 10] (fun j a wr => j = .int .i64 0 ∧ a = .int .i64 k ∧ UAt wr g (some (d, r)) most uIdle ([], st) ∧ Below w.heap.size w wr ∧ wr.heap[b]? = some (.cells #[.int .i64 3, .int .i64 0, .int .i64 0, .int .i64 0, .int .i64 0] 39 (0, 0))) (fun j _ _ => 2 - (intOf j).toNat)
      case atStart => exact ⟨rfl, rfl, hU, hb, hbb⟩
      case round =>
        clear hU hb hbb
        obtain ⟨rfl, rfl, hU, hb, hbb⟩ := hrel
        have x0 := at_cell hbb 0
        have x1 := at_cell hbb 1
        have x2 := at_cell hbb 2
        have x3 := at_cell hbb 3
        have x4 := at_cell hbb 4
        simp at x0 x1 x2 x3 x4
        have HU := Lib.hid (hU.below ((Below.refl _ _).alloc (Nat.le_refl _) (.cells #[.int .i64 3, .int .i64 0, .int .i64 0, .int .i64 0, .int .i64 0] 39)))
        have HB := Lib.hid (hb.alloc hb.size (.cells #[.int .i64 3, .int .i64 0, .int .i64 0, .int .i64 0, .int .i64 0] 39))
        clear hU hb hbb
        go_wp2_with fail
        refine (wakes_any _).mono ?_
        rintro e wa ⟨rfl, ba⟩
        have HUa := Lib.hid (show UAt wa g (some (d, r)) most ⟨-1, false, 0, 0⟩ ([], st) from HU.out.below ba)
        have HBa := Lib.hid (HB.out.trans (ba.mono HB.out.size))
        clear ba
        go_wp2_with fail
        all_goals
          first
            | (exfalso; have hM := HM.out; omega)
            | (refine (view_lit _ HUa.out).mono ?_
               rintro e wb ⟨rfl, bb⟩
               have HUb := Lib.hid (HUa.out.below bb)
               have HBb := Lib.hid (HBa.out.trans (bb.mono HBa.out.size))
               clear bb
               go_wp2_with fail
               refine (timeout_any _ HUb.out).mono ?_
               have et : uTimeout (some (d, r)) most ⟨-1, false, 0, 0⟩ ([], st) = ⟨[], 0, ⟨-1, false, 0, 0⟩, ([], st)⟩ := by rfl
               rw [et]
               rintro e wt ⟨vt, rfl, ⟨Am, cm, rfl, -⟩, -, o3⟩
               have HBt := Lib.hid (HBb.out.trans (o3.below HBb.out.size hS))
               clear o3 et
               go_wp2
               go_ret
               exact ⟨rfl, HBt.out⟩)
end Go.Proofs.Ytffkbadjbnmnmaa.Mine
