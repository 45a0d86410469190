/- PoolClaims: the walk of the law, for every list that a slice reads as, and every number. -/
import Derived.Test.YthepgcmbaljbhaaPoolMap
namespace Go.Proofs.Ythepgcmbaljbhaa.Mine
open Go.RowKit Go.Proofs.YthepgcmbaljbhaaW.PrintWords

def PCInv (w : World) (g b q m : Nat) (i : Value) (wr : World) : Prop :=
  ∃ k : Nat, i = .int .i64 k ∧ k ≤ q ∧ ∃ B last, PoolAt wr g B last ∧ (∃ n, On wr b (hasB B) (cntB B) n ∧ n ≤ m + k) ∧ Below w.heap.size w wr

theorem claim_cases (B : Nat) (x : Int) : (x < 64 ∧ claimE B x = 2 ∧ claimB B x = B) ∨ (126 < x ∧ ¬ x < 64 ∧ claimE B x = 2 ∧ claimB B x = B) ∨
    (64 ≤ x ∧ x ≤ 126 ∧ hasB B x = true ∧ claimE B x = 13 ∧ claimB B x = B) ∨
    (64 ≤ x ∧ x ≤ 126 ∧ hasB B x = false ∧ claimE B x = 0 ∧ claimB B x = orB B (x - 64).toNat ∧ B.testBit (x - 64).toNat = false) := by
  unfold claimE claimB
  by_cases h1 : x < 64
  · exact Or.inl ⟨h1, if_neg (by omega), if_neg (by omega)⟩
  · by_cases h2 : 126 < x
    · exact Or.inr (Or.inl ⟨h2, h1, if_neg (by omega), if_neg (by omega)⟩)
    · have hr : 64 ≤ x ∧ x ≤ 126 := ⟨by omega, by omega⟩
      rw [if_pos hr, if_pos hr]
      cases h3 : hasB B x
      · refine Or.inr (Or.inr (Or.inr ⟨by omega, by omega, rfl, rfl, rfl, ?_⟩))
        unfold hasB at h3
        rw [decide_eq_true (by omega)] at h3
        simpa using h3
      · exact Or.inr (Or.inr (Or.inl ⟨by omega, by omega, rfl, rfl, rfl⟩))

attribute [local go_sem] max_int min_int max_of_two min_of_two
set_option maxHeartbeats 2000000 in
set_option maxRecDepth 100000 in
theorem claims_any {A : Option Addr} {n c : Nat} {xs : List Int} (m : Int) (w : World) (hR : ReadsInt w .i64 A n xs) (hw : ∀ x ∈ xs, (Lit.int .i64 x).wf = true) (hc : n ≤ c) (hn : n * 8 ≤ 140737488351232) :
    Calls Try.prog 9 #[.slice A n c, .int .i64 m] w fun e w' => e = .returned (.bool true) ∧ Below w.heap.size w w' := by
  obtain ⟨q, hq, hqn, hq80⟩ := cut_at n 80 (by decide)
  have hq8 : q ≤ 80 := by omega
  clear hq80
  obtain ⟨p, N, hp, hp0, hN, hN3, -⟩ := rounds_of m 70 (by decide)
  have hN7 : N < 70 := by omega
  clear hN3
  have hqc : q ≤ c := by omega
  have HN := Lib.hid hN
  have HP := Lib.hid hp
  clear hN hp
  have hmm := @run_makeMap Try.prog
  have hxl := hR.1
  go_enter Try.func9, Try.ntmps9
  go_wp2_with fail
  refine (poolNew_any _).mono ?_
  rintro e w1 ⟨g, rfl, hg, h1, b1⟩
  have hgs : ∀ x, x ∈ [g] → w.heap.size ≤ x := by simpa using hg
  have hgl := lt_of_at h1.1
  have hP0 := h1.keep ((Only.refl [] w1).alloc (.map #[] 0)) (by simp)
  have hM0 := On.made w1
  have B0 := b1.alloc b1.size (.map #[] 0)
  obtain ⟨b, hb⟩ : ∃ b, w1.heap.size = b := ⟨_, rfl⟩
  rw [hb] at hM0
  have n1 : b ∉ [g] := by simp; omega
  have n2 : g ∉ [b] := by simp; omega
  have hbs : ∀ x, x ∈ [b] → w.heap.size ≤ x := by have := b1.size; simp; omega
  have HB := Lib.hid hb
  go_wp2_with fail
  clear hb hq h1 b1 hmm
  have e0 : hasB 0 = fun _ => false := by funext y; simp [hasB]
  have e1 : cntB 0 = 0 := by decide
  rw [← e0, ← e1] at hM0
  go_loopw [20] (fun i wr => PCInv w g b q 0 i wr) (fun i _ => q - (intOf i).toNat)
  case atStart => exact ⟨0, rfl, Nat.zero_le _, 0, 62, hP0, ⟨0, hM0, Nat.le_refl _⟩, B0⟩
  case round =>
    clear hP0 hM0 B0 e0 e1
    obtain ⟨k, rfl, hk, B, last, hP, ⟨nm, hM, hnm⟩, hb⟩ := hrel
    by_cases hlt : k < q
    · obtain ⟨ad, rfl, hcell⟩ := hR.2.2 (by omega)
      obtain ⟨x, hx⟩ : ∃ x, xs.getD k 0 = x := ⟨_, rfl⟩
      have hxw : (Lit.int .i64 x).wf = true := by
        have hkl : k < xs.length := by omega
        rw [List.getD_eq_getElem?_getD, List.getElem?_eq_getElem hkl] at hx
        simp only [Option.getD_some] at hx
        exact hw x (hx ▸ List.getElem_mem hkl)
      have c0 := hcell k (by omega)
      rw [hx] at c0
      have d0 := (hb.cell (World.block_lt_of_cell? w _ c0)).trans c0
      have HR := Lib.hid hR
      have HW := Lib.hid hw
      clear hcell hx c0 hR hw hxl
      go_wp2_with fail
      refine (claim_any x _ hP).mono ?_
      rintro e w2 ⟨rfl, hP2, o2⟩
      have hM2 := hM.keep o2 n1
      have b2 := hb.trans (o2.below hb.size hgs)
      have hlk := hM2.look x hxw
      clear hP hM hb o2 d0
      rcases claim_cases B x with ⟨h1, h2, h3⟩ | ⟨h1, h1', h2, h3⟩ | ⟨h1, h1', h4, h2, h3⟩ | ⟨h1, h1', h4, h2, h3, h5⟩
      · rw [h2]
        rw [h3] at hP2
        have hI : PCInv w g b q 0 (.int .i64 ((k : Int) + 1)) w2 := ⟨k + 1, by go_num, by omega, B, last, hP2, ⟨nm, hM2, by omega⟩, b2⟩
        clear hP2 hM2 b2 h2 h3
        go_wp2
        go_roundw
        case rel => exact hI
        case measure => simp [intOf]; omega
      · rw [h2]
        rw [h3] at hP2
        have hI : PCInv w g b q 0 (.int .i64 ((k : Int) + 1)) w2 := ⟨k + 1, by go_num, by omega, B, last, hP2, ⟨nm, hM2, by omega⟩, b2⟩
        clear hP2 hM2 b2 h2 h3
        go_wp2
        go_roundw
        case rel => exact hI
        case measure => simp [intOf]; omega
      · rw [h2]
        rw [h3] at hP2
        rw [h4] at hlk
        have hI : PCInv w g b q 0 (.int .i64 ((k : Int) + 1)) w2 := ⟨k + 1, by go_num, by omega, B, last, hP2, ⟨nm, hM2, by omega⟩, b2⟩
        clear hP2 hM2 b2 h2 h3 h4
        go_wp2
        go_roundw
        case rel => exact hI
        case measure => simp [intOf]; omega
      · rw [h2]
        rw [h3] at hP2
        rw [h4] at hlk
        have HM2 := Lib.hid hM2
        have HP2 := Lib.hid hP2
        have HB2 := Lib.hid b2
        have H45 := Lib.hid (And.intro h4 h5)
        clear hP2 hM2 b2 h2 h3 h4 h5
        go_wp2_with (at_mapUpdate; refine wpList_store_on rfl _ _ _ rfl HM2.out x rfl rfl rfl hxw H45.out.1 ?c1 ?c2)
        case c1 => unfold maxLen; omega
        case c2 =>
          intro w3 hM3 o3
          have hj : (x - 64).toNat < 63 := by omega
          have hI : PCInv w g b q 0 (.int .i64 ((k : Int) + 1)) w3 := by
            refine ⟨k + 1, by go_num, by omega, orB B (x - 64).toNat, last, HP2.out.keep o3 n2, ⟨nm + 1, ?_, by omega⟩, HB2.out.trans (o3.below HB2.out.size hbs)⟩
            rw [hasB_or B _ hj, cnt_or B _ hj H45.out.2, show 64 + (((x - 64).toNat : Nat) : Int) = x by omega]
            exact hM3
          clear hM3 o3
          go_wp2
          go_roundw
          case rel => exact hI
          case measure => simp [intOf]; omega
    · obtain rfl : k = q := by omega
      have hN := HN.out
      have hp := HP.out
      go_wp2_with fail
      rw [hN]
      clear hN hp hp0
      go_loopw [50] (fun i wr => PCInv w g b N k i wr) (fun i _ => N - (intOf i).toNat)
      case atStart => exact ⟨0, rfl, Nat.zero_le _, B, last, hP, ⟨nm, hM, by omega⟩, hb⟩
      case round =>
        clear hP hM hb hnm
        obtain ⟨j, rfl, hj, B, last, hP, ⟨nm, hM, hnm⟩, hb⟩ := hrel
        by_cases hjt : j < N
        · rcases hs : seek B 63 last with _ | i
          · obtain ⟨q1, q2, q3⟩ := asg_full B last hs
            have hL : asgL B last = last := by unfold asgL; rw [hs]
            go_wp2_with fail
            refine (assign_any _ hP).mono ?_
            rintro e w2 ⟨rfl, hP2, o2⟩
            have hM2 := hM.keep o2 n1
            have b2 := hb.trans (o2.below hb.size hgs)
            have hlen := hM2.len 3
            rw [q2]
            rw [q3, hL] at hP2
            have hI : PCInv w g b N k (.int .i64 ((j : Int) + 1)) w2 := ⟨j + 1, by go_num, by omega, B, last, hP2, ⟨nm, hM2, by omega⟩, b2⟩
            rw [q1] at hlen
            clear hP hM hb hP2 hM2 b2 o2 q1 q2 q3 hL hs
            go_wp2
            go_roundw
            case rel => exact hI
            case measure => simp [intOf]; omega
          · obtain ⟨q0, q1, q2, q3, q4, q5⟩ := asg_some B last i hs
            have hq1 : hasB B (64 + (i : Int)) = false := by rw [hasB_at B i q0]; exact q1
            have hww : (Lit.int .i64 (64 + (i : Int))).wf = true := WalkArith.wf_i64 (by omega)
            go_wp2_with fail
            refine (assign_any _ hP).mono ?_
            rintro e w2 ⟨rfl, hP2, o2⟩
            have hM2 := hM.keep o2 n1
            have b2 := hb.trans (o2.below hb.size hgs)
            have hlen := hM2.len 3
            have hlk := hM2.look (64 + (i : Int)) hww
            have z0 : ((cntB B : Int) == 63) = false := by simp; omega
            rw [q3, q4]
            rw [q5] at hP2
            rw [hq1] at hlk
            have HM2 := Lib.hid hM2
            have HP2 := Lib.hid hP2
            have HB2 := Lib.hid b2
            have HQ := Lib.hid (And.intro q0 (And.intro q1 hq1))
            clear hP hM hb hP2 hM2 b2 o2 q0 q1 q2 q3 q4 q5 hs hq1
            go_wp2_with (at_mapUpdate; refine wpList_store_on rfl _ _ _ rfl HM2.out (64 + (i : Int)) rfl rfl rfl hww HQ.out.2.2 ?c1 ?c2)
            case c1 => unfold maxLen; omega
            case c2 =>
              intro w3 hM3 o3
              have hI : PCInv w g b N k (.int .i64 ((j : Int) + 1)) w3 := by
                refine ⟨j + 1, by go_num, by omega, orB B i, _, HP2.out.keep o3 n2, ⟨nm + 1, ?_, by omega⟩, HB2.out.trans (o3.below HB2.out.size hbs)⟩
                rw [hasB_or B _ HQ.out.1, cnt_or B _ HQ.out.1 HQ.out.2.1]
                exact hM3
              clear hM3 o3
              go_wp2
              go_roundw
              case rel => exact hI
              case measure => simp [intOf]; omega
        · go_wp2_with fail
          refine (pwakes_any _).mono ?_
          rintro e w2 ⟨rfl, b2⟩
          have hP2 := hP.keep (Only.of_below b2 []) (by simp)
          have hM2 := hM.keep (Only.of_below b2 []) (by simp)
          have B2 := hb.trans (b2.mono hb.size)
          go_wp2_with fail
          refine (list_any _ hP2).mono ?_
          rintro e w3 ⟨A3, c3, rfl, _, _, b3⟩
          have hM3 := hM2.keep (Only.of_below b3 []) (by simp)
          have B3 := B2.trans (b3.mono B2.size)
          have hlen := hM3.len 3
          have hcl : (listB B 63).length = cntB B := rfl
          rw [hcl]
          clear hP hM hb hP2 hM2 B2 b2 b3 hM3 hcl
          go_wp2
          go_ret
          exact ⟨ret_bool (by simp), B3⟩
end Go.Proofs.Ythepgcmbaljbhaa.Mine
