/- The contracts of the reference of layer 12: each for every pool that lies in memory as told. -/
import Derived.Test.YthepgcmbaljbhaaPoolWakes
namespace Go.Proofs.Ythepgcmbaljbhaa.Mine
open Go.RowKit Go.Proofs.YthepgcmbaljbhaaW.PrintWords

/-- The reference's pool in block g: which are assigned, as a pool's bits say it, and the one that was told last; 0: none was. -/
def RPool (w : World) (g B : Nat) (told : Int) : Prop :=
  ∃ cs : Array Value, w.heap[g]? = some (.cells cs 38 (0, 0)) ∧ cs.size = 129 ∧ (∀ j, j < 63 → cs[64 + j]? = some (.bool (B.testBit j))) ∧ cs[128]? = some (.int .i64 told)
theorem RPool.keep {w w' : World} {g B : Nat} {told : Int} {S : List Nat} (h : RPool w g B told) (k : Only S w w') (hg : g ∉ S) : RPool w' g B told := by
  obtain ⟨cs, h1, h2⟩ := h
  exact ⟨cs, k.at h1 hg, h2⟩
/-- Who was told last, as both say it. -/
def Told (told : Int) (last : Nat) : Prop := (told = 0 ∧ last = 62) ∨ told = 64 + (last : Int)

theorem RPool.set {w : World} {g B : Nat} {told : Int} (h : RPool w g B told) (j : Nat) (hj : j < 63) (b : Bool) (B' : Nat) (hB : ∀ i, i < 63 → B'.testBit i = if j = i then b else B.testBit i) :
    RPool (w.setCell ⟨g, 64 + j, none⟩ (.bool b)) g B' told := by
  obtain ⟨cs, h1, h2, h3, h4⟩ := h
  refine ⟨cs.setIfInBounds (64 + j) (.bool b), at_set h1 _ _, by simpa using h2, fun i hi => ?_, ?_⟩
  · rw [Array.getElem?_setIfInBounds, hB i hi]
    by_cases e : j = i
    · subst e
      rw [if_pos rfl, if_pos (by omega), if_pos rfl]
    · rw [if_neg (by omega), if_neg e]
      exact h3 i hi
  · rw [Array.getElem?_setIfInBounds, if_neg (by omega)]
    exact h4
theorem RPool.tell {w : World} {g B : Nat} {told : Int} (h : RPool w g B told) (t : Int) : RPool (w.setCell ⟨g, 128, none⟩ (.int .i64 t)) g B t := by
  obtain ⟨cs, h1, h2, h3, h4⟩ := h
  refine ⟨cs.setIfInBounds 128 (.int .i64 t), at_set h1 _ _, by simpa using h2, fun i hi => ?_, ?_⟩
  · rw [Array.getElem?_setIfInBounds, if_neg (by omega)]
    exact h3 i hi
  · rw [Array.getElem?_setIfInBounds, if_pos rfl, if_pos (by omega)]
theorem RPool.at {w : World} {g B : Nat} {told : Int} (h : RPool w g B told) (j : Nat) (hj : j < 63) : w.cell? ⟨g, 64 + j, none⟩ = some (.bool (B.testBit j)) ∧ w.frozen? ⟨g, 64 + j, none⟩ = false := by
  obtain ⟨cs, h1, h2, h3, h4⟩ := h
  exact ⟨(at_cell h1 _).trans (h3 j hj), at_frozen h1 _⟩
theorem RPool.last {w : World} {g B : Nat} {told : Int} (h : RPool w g B told) : w.cell? ⟨g, 128, none⟩ = some (.int .i64 told) ∧ w.frozen? ⟨g, 128, none⟩ = false := by
  obtain ⟨cs, h1, h2, h3, h4⟩ := h
  exact ⟨(at_cell h1 _).trans h4, at_frozen h1 _⟩

theorem rhas_any {g B : Nat} {told : Int} (tei : Int) (w : World) (h : RPool w g B told) :
    Calls Try.prog 29 #[.pointer (some ⟨g, 0, none⟩), .int .i64 tei] w fun e w' => e = .returned (.bool (hasB B tei)) ∧ w = w' := by
  by_cases h1 : tei < 64
  · have e := Lib.hid (hasB_none B tei (Or.inl h1))
    go_enter Try.func29, Try.ntmps29
    go_wp2
    go_ret
    exact ⟨ret_bool (by rw [e.out]), rfl⟩
  · by_cases h2 : 126 < tei
    · have e := Lib.hid (hasB_none B tei (Or.inr h2))
      go_enter Try.func29, Try.ntmps29
      go_wp2
      go_ret
      exact ⟨ret_bool (by rw [e.out]), rfl⟩
    · obtain ⟨j, rfl⟩ : ∃ j : Nat, tei = 64 + (j : Int) := ⟨(tei - 64).toNat, by omega⟩
      have hj : j < 63 := by omega
      obtain ⟨c0, _⟩ := h.at j hj
      rw [hasB_at B j hj]
      clear h
      go_enter Try.func29, Try.ntmps29
      go_wp2
      go_ret
      exact ⟨rfl, rfl⟩

theorem rclaim_any {g B : Nat} {told : Int} (tei : Int) (w : World) (h : RPool w g B told) :
    Calls Try.prog 21 #[.pointer (some ⟨g, 0, none⟩), .int .i64 tei] w fun e w' => e = .returned (.int .i64 (claimE B tei)) ∧ RPool w' g (claimB B tei) told ∧ Only [g] w w' := by
  by_cases hr : 64 ≤ tei ∧ tei ≤ 126
  · obtain ⟨j, rfl⟩ : ∃ j : Nat, tei = 64 + (j : Int) := ⟨(tei - 64).toNat, by omega⟩
    have hj : j < 63 := by omega
    obtain ⟨c0, f0⟩ := h.at j hj
    have hc1 : claimE B (64 + (j : Int)) = if B.testBit j then 13 else 0 := by unfold claimE; rw [if_pos (by omega), hasB_at B j hj]
    have hc2 : claimB B (64 + (j : Int)) = if B.testBit j then B else orB B j := by
      unfold claimB; rw [if_pos (by omega), hasB_at B j hj, show (64 + (j : Int) - 64).toNat = j by omega]
    rw [hc1, hc2]
    clear hc1 hc2 hr
    cases ht : B.testBit j
    · rw [ht] at c0
      have hs := h.set j hj true (orB B j) (fun i _ => by rw [orB_bit]; by_cases e : j = i <;> simp [e])
      have HS := Lib.hid hs
      clear h ht hs
      go_enter Try.func21, Try.ntmps21
      go_wp2
      go_ret
      exact ⟨rfl, HS.out, (Only.refl _ _).setCell (Or.inl (by simp)) _⟩
    · rw [ht] at c0
      have HS := Lib.hid h
      clear h ht
      go_enter Try.func21, Try.ntmps21
      go_wp2
      go_ret
      exact ⟨rfl, HS.out, Only.refl _ _⟩
  · have hc1 : claimE B tei = 2 := if_neg hr
    have hc2 : claimB B tei = B := if_neg hr
    rw [hc1, hc2]
    clear hc1 hc2
    by_cases h1 : tei < 64
    all_goals
      first | skip | (have h2 : 126 < tei := by omega)
      have HS := Lib.hid h
      first | (have h3 : 126 < tei := by omega) | skip
      clear h hr
      go_enter Try.func21, Try.ntmps21
      go_wp2
      go_ret
      exact ⟨rfl, HS.out, Only.refl _ _⟩

theorem rfree_any {g B : Nat} {told : Int} (tei : Int) (w : World) (h : RPool w g B told) :
    Calls Try.prog 23 #[.pointer (some ⟨g, 0, none⟩), .int .i64 tei] w fun e w' => e = .returned (.bool (hasB B tei)) ∧ RPool w' g (freeB B tei) told ∧ Only [g] w w' := by
  have hq := rhas_any tei w h
  cases hh : hasB B tei
  · rw [hh] at hq
    have hf : freeB B tei = B := by unfold freeB; rw [hh]; rfl
    rw [hf]
    have HS := Lib.hid h
    clear h hh hf
    go_enter Try.func23, Try.ntmps23
    go_wp2_with (go_at_call 29; refine hq.mono ?_; rintro e w' ⟨rfl, rfl⟩)
    go_ret
    exact ⟨rfl, HS.out, Only.refl _ _⟩
  · rw [hh] at hq
    have hf : freeB B tei = offB B (tei - 64).toNat := by unfold freeB; rw [hh]; rfl
    rw [hf]
    have hr : 64 ≤ tei ∧ tei ≤ 126 := by
      by_cases hr : 64 ≤ tei ∧ tei ≤ 126
      · exact hr
      · rw [hasB_none B tei (by omega)] at hh; cases hh
    obtain ⟨j, rfl⟩ : ∃ j : Nat, tei = 64 + (j : Int) := ⟨(tei - 64).toNat, by omega⟩
    have hj : j < 63 := by omega
    obtain ⟨c0, f0⟩ := h.at j hj
    rw [show (64 + (j : Int) - 64).toNat = j by omega]
    have hs := h.set j hj false (offB B j) (fun i hi => by rw [offB_bit B j i hj hi]; by_cases e : j = i <;> simp [e])
    have HS := Lib.hid hs
    obtain ⟨b, hb⟩ : ∃ b, B.testBit j = b := ⟨_, rfl⟩
    rw [hb] at c0
    clear h hh hf hr hs hb
    go_enter Try.func23, Try.ntmps23
    go_wp2_with (go_at_call 29; refine hq.mono ?_; rintro e w' ⟨rfl, rfl⟩)
    go_ret
    exact ⟨rfl, HS.out, (Only.refl _ _).setCell (Or.inl (by simp)) _⟩

def RAsgInv (B last : Nat) (v i : Value) : Prop :=
  ∃ (k l : Nat) (T : Int), i = .int .i64 (64 + (k : Int)) ∧ v = .int .i64 T ∧ k ≤ 63 ∧ l < 63 ∧ Told T l ∧ seek B 63 last = seek B (63 - k) l

set_option maxHeartbeats 1000000 in
theorem rassign_any {g B last : Nat} {told : Int} (w : World) (h : RPool w g B told) (ht : Told told last) (hlast : last < 63) :
    Calls Try.prog 25 #[.pointer (some ⟨g, 0, none⟩)] w fun e w' =>
      e = .returned (.tuple #[.int .i64 (asgT B last), .int .i64 (asgE B last)]) ∧ (∃ told', RPool w' g (asgB B last) told' ∧ Told told' (asgL B last)) ∧ Only [g] w w' := by
  obtain ⟨c128, f128⟩ := h.last
  have H := Lib.hid h
  clear h
  go_enter Try.func25, Try.ntmps25
  go_wp2
  go_loop [4, 5] (fun v i => RAsgInv B last v i) (fun _ i => 128 - (intOf i).toNat)
  case atStart => exact ⟨0, last, told, rfl, rfl, by omega, hlast, ht, rfl⟩
  case round =>
    obtain ⟨k, l, T, rfl, rfl, hk, hl, hT, hs⟩ := hrel
    have HS := Lib.hid hs
    clear hs
    by_cases hlt : k < 63
    · obtain ⟨l', hl'⟩ : ∃ l', (l + 1) % 63 = l' := ⟨_, rfl⟩
      have hl63 : l' < 63 := by omega
      have hstep : seek B (63 - k) l = if B.testBit l' then seek B (63 - (k + 1)) l' else some l' := by
        rw [show 63 - k = (63 - (k + 1)) + 1 by omega, seek, hl']
      obtain ⟨cl, fl⟩ := H.out.at l' hl63
      have hcase : (T = 0 ∧ l' = 0) ∨ (T = 126 ∧ l' = 0) ∨ (T = 64 + (l : Int) ∧ l < 62 ∧ l' = l + 1) := by
        rcases hT with ⟨h1, h2⟩ | h1 <;> omega
      have hT2 : Told (64 + (l' : Int)) l' := Or.inr rfl
      clear hT hl'
      cases hb : B.testBit l'
      · rw [hb] at cl hstep
        have hseek : seek B 63 last = some l' := by rw [HS.out, hstep]; rfl
        have r1 : asgT B last = 64 + (l' : Int) := by unfold asgT; rw [hseek]
        have r2 : asgE B last = 0 := by unfold asgE; rw [hseek]
        have r3 : asgB B last = orB B l' := by unfold asgB; rw [hseek]
        have r4 : asgL B last = l' := by unfold asgL; rw [hseek]
        have RS := Lib.hid (And.intro r1 (And.intro r2 (And.intro r3 r4)))
        have hR := (H.out.set l' hl63 true (orB B l') (fun i _ => by rw [orB_bit]; by_cases e : l' = i <;> simp [e])).tell (64 + (l' : Int))
        have HR := Lib.hid hR
        have HT2 := Lib.hid hT2
        clear hb hstep hseek r1 r2 r3 r4 hR hT2
        rcases hcase with ⟨h1, h2⟩ | ⟨h1, h2⟩ | ⟨h1, h2, h3⟩
        · subst h1 h2
          have cl' : w.cell? ⟨g, 64, none⟩ = some (.bool false) := cl
          have fl' : w.frozen? ⟨g, 64, none⟩ = false := fl
          clear cl fl
          go_wp2
          go_ret2
          obtain ⟨r1, r2, r3, r4⟩ := RS.out
          rw [r1, r2, r3, r4]
          exact ⟨rfl, ⟨64, HR.out, HT2.out⟩, ((Only.refl _ _).setCell (Or.inl (by simp)) _).setCell (Or.inl (by simp)) _⟩
        · subst h1 h2
          have cl' : w.cell? ⟨g, 64, none⟩ = some (.bool false) := cl
          have fl' : w.frozen? ⟨g, 64, none⟩ = false := fl
          clear cl fl
          go_wp2
          go_ret2
          obtain ⟨r1, r2, r3, r4⟩ := RS.out
          rw [r1, r2, r3, r4]
          exact ⟨rfl, ⟨64, HR.out, HT2.out⟩, ((Only.refl _ _).setCell (Or.inl (by simp)) _).setCell (Or.inl (by simp)) _⟩
        · subst h1 h3
          have cl' : w.cell? ⟨g, 64 + l + 1, none⟩ = some (.bool false) := cl
          have fl' : w.frozen? ⟨g, 64 + l + 1, none⟩ = false := fl
          clear cl fl
          go_wp2
          go_ret2
          obtain ⟨r1, r2, r3, r4⟩ := RS.out
          rw [r1, r2, r3, r4]
          have e1 : (64 : Int) + ((l + 1 : Nat) : Int) = 64 + (l : Int) + 1 := by omega
          have HR1 := HR.out
          have HT1 := HT2.out
          rw [e1] at HR1 HT1
          exact ⟨by rw [e1]; rfl, ⟨_, HR1, HT1⟩, ((Only.refl _ _).setCell (Or.inl (by simp)) _).setCell (Or.inl (by simp)) _⟩
      · rw [hb] at cl hstep
        have hseek : seek B 63 last = seek B (63 - (k + 1)) l' := by rw [HS.out, hstep]; rfl
        have HSK := Lib.hid hseek
        have HT2 := Lib.hid hT2
        clear hb hstep hseek hT2
        rcases hcase with ⟨h1, h2⟩ | ⟨h1, h2⟩ | ⟨h1, h2, h3⟩
        · subst h1 h2
          have cl' : w.cell? ⟨g, 64, none⟩ = some (.bool true) := cl
          clear cl fl
          go_wp2
          go_round
          case rel => exact ⟨k + 1, 0, 64, by go_num, rfl, by omega, by omega, HT2.out, HSK.out⟩
          case measure => simp [intOf]; omega
        · subst h1 h2
          have cl' : w.cell? ⟨g, 64, none⟩ = some (.bool true) := cl
          clear cl fl
          go_wp2
          go_round
          case rel => exact ⟨k + 1, 0, 64, by go_num, rfl, by omega, by omega, HT2.out, HSK.out⟩
          case measure => simp [intOf]; omega
        · subst h1 h3
          have cl' : w.cell? ⟨g, 64 + l + 1, none⟩ = some (.bool true) := cl
          clear cl fl
          go_wp2
          go_round
          case rel => exact ⟨k + 1, l + 1, 64 + ((l + 1 : Nat) : Int), by go_num, by go_num, by omega, by omega, HT2.out, HSK.out⟩
          case measure => simp [intOf]; omega
    · obtain rfl : k = 63 := by omega
      go_wp2
      go_ret2
      have hseek : seek B 63 last = none := by rw [HS.out]; rfl
      have r1 : asgT B last = 0 := by unfold asgT; rw [hseek]
      have r2 : asgE B last = 10 := by unfold asgE; rw [hseek]
      have r3 : asgB B last = B := by unfold asgB; rw [hseek]
      have r4 : asgL B last = last := by unfold asgL; rw [hseek]
      rw [r1, r2, r3, r4]
      exact ⟨rfl, ⟨_, H.out, ht⟩, Only.refl _ _⟩

def RListInv (w : World) (B : Nat) (v i : Value) (wr : World) : Prop :=
  ∃ k : Nat, i = .int .i64 (64 + (k : Int)) ∧ k ≤ 63 ∧ wr.ownsRow w.heap.size 3 1 v (listB B k).length (nums .i64 (listB B k)) ∧ Below w.heap.size w wr

set_option maxHeartbeats 1000000 in
theorem rlist_any {g B : Nat} {told : Int} (w : World) (h : RPool w g B told) :
    Calls Try.prog 27 #[.pointer (some ⟨g, 0, none⟩)] w fun e w' =>
      ∃ A c, e = .returned (.slice A (listB B 63).length c) ∧ Lies w.heap.size w' A c (listB B 63) ∧ Below w.heap.size w w' := by
  have H := Lib.hid h
  clear h
  go_enter Try.func27, Try.ntmps27
  go_wp2
  go_loopw [3, 4] (fun v i wr => RListInv w B v i wr) (fun _ i _ => 127 - (intOf i).toNat)
  case atStart => exact ⟨0, rfl, by omega, own_nil _ _ _ _, Below.refl _ _⟩
  case round =>
    obtain ⟨k, rfl, hk, ho, hb⟩ := hrel
    obtain ⟨A1, c1, rfl⟩ := own_slice ho
    have hlen := listB_length B k
    by_cases hlt : k < 63
    · have hstep : listB B (k + 1) = listB B k ++ (if B.testBit k then [64 + (k : Int)] else []) := rfl
      have hP := H.out.keep (Only.of_below hb []) (by simp)
      obtain ⟨c0, _⟩ := hP.at k hlt
      clear hP
      cases ht : B.testBit k
      · rw [ht] at hstep c0
        have hI : RListInv w B (.slice A1 (listB B k).length c1) (.int .i64 (64 + (k : Int) + 1)) wr :=
          ⟨k + 1, by go_num, by omega, by rw [hstep]; simp only [Bool.false_eq_true, if_false, List.append_nil]; exact ho, hb⟩
        clear ho hb ht hstep
        go_wp2
        go_roundw
        case rel => exact hI
        case measure => simp [intOf]; omega
      · rw [ht] at hstep c0
        have HO := Lib.hid ho
        have HB := Lib.hid hb
        have HST := Lib.hid hstep
        have hsz : w.heap.size ≤ wr.heap.size := hb.size
        clear ho hb ht hstep
        go_wp2_with (at_builtin; refine print_append_num (w0 := wr) w.heap.size rfl _ _ 23 3 .i64 8 rfl Try.underlying23 infoInt (by decide) _ (listB B k) (64 + (k : Int)) rfl rfl ?c1 ?c2 ?c3 ?c4 ?c5)
        case c1 => exact HO.out
        case c2 => exact Below.refl _ _
        case c4 => omega
        case c5 =>
          intro v1 w1 hown hb1 hg1 _
          obtain ⟨A2, c2, rfl⟩ := own_slice hown
          have hI : RListInv w B (.slice A2 ((listB B k).length + 1) c2) (.int .i64 (64 + (k : Int) + 1)) w1 := by
            refine ⟨k + 1, by go_num, by omega, ?_, HB.out.trans hb1⟩
            rw [HST.out]; simpa using hown
          clear hown hb1 hg1
          go_wp2
          go_roundw
          case rel => exact hI
          case measure => simp [intOf]; omega
    · obtain rfl : k = 63 := by omega
      go_wp2
      go_ret
      obtain ⟨A2, c2, hv, hl⟩ := Row.of_own ho
      exact ⟨_, _, by rw [← hv]; rfl, hl, hb⟩
end Go.Proofs.Ythepgcmbaljbhaa.Mine
