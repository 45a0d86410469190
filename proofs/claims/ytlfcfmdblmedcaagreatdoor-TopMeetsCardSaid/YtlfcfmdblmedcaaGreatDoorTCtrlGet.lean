/- The contract of ctrl.Get. -/
import Derived.Test.YtlfcfmdblmedcaaGreatDoorTAddrGet
import Derived.Deep.CutBlock
import Derived.Deep.DeepCutAuto
namespace Go.Proofs.YtlfcfmdblmedcaaGreatDoor.Mine
open Go.RowKit Go.Proofs.YtlfcfmdblmedcaaGreatDoorW.PrintWords
attribute [local go_sem] max_int min_int max_of_two min_of_two

theorem kindAt_range (x : Int) : 0 ≤ kindAt x ∧ kindAt x ≤ 9 := by
  unfold kindAt
  repeat' split
  all_goals omega
/-- The kind that an octet is of. -/
def kindOf (x : Int) : Int := if kindAt x = 0 then kindAt (bits .andNot .u8 x 16) else kindAt x
theorem kindOf_range (x : Int) : 0 ≤ kindOf x ∧ kindOf x ≤ 9 := by
  unfold kindOf
  split
  · exact kindAt_range _
  · exact kindAt_range _
structure CF where
  kind : Int
  pf : Bool
  ns : Int
  nr : Int
  n : Int
  err : Int
/-- The control field that octets begin with, its length, the error. -/
def ctrlF (l : List Int) : CF :=
  if l.length = 0 then ⟨0, false, 0, 0, 0, 3⟩
  else if l.getD 0 0 % 2 ≠ 0 ∧ (kindOf (l.getD 0 0) = 0 ∨ kindOf (l.getD 0 0) ≤ 3 ∧ l.getD 0 0 ≠ firstT.getD (kindOf (l.getD 0 0)).toNat 0) then ⟨0, false, 0, 0, 0, 4⟩
  else if l.getD 0 0 % 2 ≠ 0 ∧ 3 < kindOf (l.getD 0 0) then ⟨kindOf (l.getD 0 0), bits .and .u8 (l.getD 0 0) 16 != 0, 0, 0, 1, 0⟩
  else if l.length < 2 then ⟨0, false, 0, 0, 0, 3⟩
  else ⟨if l.getD 0 0 % 2 = 0 then 0 else kindOf (l.getD 0 0), l.getD 1 0 % 2 == 1, if l.getD 0 0 % 2 = 0 then fieldV (l.getD 0 0) 1 7 else 0, fieldV (l.getD 1 0) 1 7, 2, 0⟩
/-- Behind the second octet: the result's box, the field's box. -/
def CG (w : World) (k : Int) (pf : Bool) (nr : Int) (W : World) : Prop :=
  W.heap[w.heap.size]? = some (.cells #[.int .i64 0, .bool false, .int .i64 0, .int .i64 0] 116 (0, 0)) ∧ W.heap[w.heap.size + 1]? = some (.cells #[.int .i64 k, .bool pf, .int .i64 0, .int .i64 nr] 116 (0, 0)) ∧ Below w.heap.size w W
theorem cg_first {w : World} {k nr nr0 ns0 : Int} {pf pf0 : Bool} {n : Nat} (h0 : ns0 = 0 := by rfl) :
    CG w k pf nr (((((w.alloc (.cells #[.int .i64 0, .bool false, .int .i64 0, .int .i64 0] 116)).alloc (.cells #[.int .i64 k, .bool pf0, .int .i64 ns0, .int .i64 nr0] 116)).drewN n).setCell ⟨w.heap.size + 1, 1, none⟩ (.bool pf)).setCell ⟨w.heap.size + 1, 3, none⟩ (.int .i64 nr)) := by
  subst h0
  have h1 : (((w.alloc (.cells #[.int .i64 0, .bool false, .int .i64 0, .int .i64 0] 116)).alloc (.cells #[.int .i64 k, .bool pf0, .int .i64 0, .int .i64 nr0] 116)).drewN n).heap[w.heap.size]? = some (.cells #[.int .i64 0, .bool false, .int .i64 0, .int .i64 0] 116 (0, 0)) := at_alloc (at_new w _) _
  have h2 : (((w.alloc (.cells #[.int .i64 0, .bool false, .int .i64 0, .int .i64 0] 116)).alloc (.cells #[.int .i64 k, .bool pf0, .int .i64 0, .int .i64 nr0] 116)).drewN n).heap[w.heap.size + 1]? = some (.cells #[.int .i64 k, .bool pf0, .int .i64 0, .int .i64 nr0] 116 (0, 0)) := by
    have := at_new (w.alloc (.cells #[.int .i64 0, .bool false, .int .i64 0, .int .i64 0] 116)) (.cells #[.int .i64 k, .bool pf0, .int .i64 0, .int .i64 nr0] 116)
    rw [World.size_alloc] at this
    exact this
  refine ⟨at_far (at_far h1 (by show w.heap.size ≠ w.heap.size + 1; omega) _) (by show w.heap.size ≠ w.heap.size + 1; omega) _, by rw [at_set (at_set h2 1 _) 3 _]; rfl, ?_⟩
  have hb : Below w.heap.size w ((w.alloc (.cells #[.int .i64 0, .bool false, .int .i64 0, .int .i64 0] 116)).alloc (.cells #[.int .i64 k, .bool pf0, .int .i64 0, .int .i64 nr0] 116)) := ((Below.refl _ _).alloc (Nat.le_refl _) _).alloc (by simp) _
  exact ((((Only.of_below hb []).drewN n).below (Nat.le_refl _) (by simp)).setCell (by show w.heap.size ≤ w.heap.size + 1; omega) _).setCell (by show w.heap.size ≤ w.heap.size + 1; omega) _
theorem cg_last {w : World} {b : Nat} {a0 a1 a2 a3 x0 x1 x2 x3 : Value} (h : w.heap[b]? = some (.cells #[a0, a1, a2, a3] 116 (0, 0))) :
    ((((w.setCell ⟨b, 0, none⟩ x0).setCell ⟨b, 1, none⟩ x1).setCell ⟨b, 2, none⟩ x2).setCell ⟨b, 3, none⟩ x3).heap[b]? = some (.cells #[x0, x1, x2, x3] 116 (0, 0)) := by
  rw [at_set (at_set (at_set (at_set h 0 _) 1 _) 2 _) 3 _]; rfl
theorem cg_below {w wc : World} {b : Nat} {x0 x1 x2 x3 : Value} (h : Below b w wc) : Below b w ((((wc.setCell ⟨b, 0, none⟩ x0).setCell ⟨b, 1, none⟩ x1).setCell ⟨b, 2, none⟩ x2).setCell ⟨b, 3, none⟩ x3) :=
  (((h.setCell (Nat.le_refl _) _).setCell (Nat.le_refl _) _).setCell (Nat.le_refl _) _).setCell (Nat.le_refl _) _
theorem cg_last_even {w : World} {b c n : Nat} {a0 a1 a2 a3 x0 x1 x2 x3 v : Value} (h : w.heap[b]? = some (.cells #[a0, a1, a2, a3] 116 (0, 0))) (hne : b ≠ c) :
    (((((((w.drewN n).setCell ⟨c, 2, none⟩ v).setCell ⟨b, 0, none⟩ x0).setCell ⟨b, 1, none⟩ x1).setCell ⟨b, 2, none⟩ x2).setCell ⟨b, 3, none⟩ x3)).heap[b]? = some (.cells #[x0, x1, x2, x3] 116 (0, 0)) := by
  have h1 : ((w.drewN n).setCell ⟨c, 2, none⟩ v).heap[b]? = some (.cells #[a0, a1, a2, a3] 116 (0, 0)) := at_far (w := w.drewN n) h hne _
  rw [at_set (at_set (at_set (at_set h1 0 _) 1 _) 2 _) 3 _]; rfl
theorem cg_below_even {w wc : World} {b c n : Nat} {x0 x1 x2 x3 v : Value} (h : Below b w wc) (hc : b ≤ c) : Below b w ((((((wc.drewN n).setCell ⟨c, 2, none⟩ v).setCell ⟨b, 0, none⟩ x0).setCell ⟨b, 1, none⟩ x1).setCell ⟨b, 2, none⟩ x2).setCell ⟨b, 3, none⟩ x3) :=
  ((((Below.setCell (w := wc.drewN n) ⟨h.os, h.tape, h.output, h.size, h.block⟩ hc _).setCell (Nat.le_refl _) _).setCell (Nat.le_refl _) _).setCell (Nat.le_refl _) _).setCell (Nat.le_refl _) _
def CtrlPost (w : World) (d : CF) (e : Ending) (w' : World) : Prop := e = .returned (.tuple #[.agg #[.int .i64 d.kind, .bool d.pf, .int .i64 d.ns, .int .i64 d.nr], .int .i64 d.n, .int .i64 d.err]) ∧ Below w.heap.size w w'

set_option maxHeartbeats 2000000 in
set_option maxRecDepth 100000 in
theorem ctrlget_any (s : ByteArray) (w : World) (hs : s.size ≤ 10000000) (hT : Tabs w) :
    Calls Tryz.prog 63 #[.string s] w (CtrlPost w (ctrlF (bytesOf s))) := by
  have hnew : ∀ a b c d, (w.alloc (.cells #[a, b, c, d] 116)).heap[w.heap.size]? = some (.cells #[a, b, c, d] 116 (0, 0)) := fun a b c d => at_new w _
  have hbel : ∀ a b c d, Below w.heap.size w (w.alloc (.cells #[a, b, c, d] 116)) := fun a b c d => (Below.refl _ _).alloc (Nat.le_refl _) _
  have hT1 : Tabs (w.alloc (.cells #[.int .i64 0, .bool false, .int .i64 0, .int .i64 0] 116)) := hT.below ((Below.refl _ _).alloc (Nat.le_refl _) _)
  have HN := Lib.hid hnew
  have HB := Lib.hid hbel
  have HT1 := Lib.hid hT1
  have HT := Lib.hid hT
  clear hnew hbel hT1 hT
  by_cases h0 : s.size = 0
  · have e : ctrlF (bytesOf s) = ⟨0, false, 0, 0, 0, 3⟩ := by unfold ctrlF; rw [if_pos (by rw [bytesOf_length]; exact h0)]
    rw [e]
    have hs0 : s = ⟨#[]⟩ := by
      apply ByteArray.ext
      exact Array.size_eq_zero_iff.1 h0
    subst hs0
    clear e h0
    go_enter Tryz.func63, Tryz.ntmps63
    go_wp2
    refine bodyPost_ret (results_ctt rfl _ _ w.heap.size 116 #[.int .i64 0, .bool false, .int .i64 0, .int .i64 0] (0, 0) _ rfl (HN.out _ _ _ _) Tryz.underlying116 rfl (by kernel_rfl)) rfl ?_
    exact ⟨rfl, HB.out _ _ _ _⟩
  · have hsne : s ≠ ⟨#[]⟩ := by intro q; apply h0; rw [q]; rfl
    have s1 := str_ne hsne
    have s2 : s.toList ≠ [] := by
      intro q
      rw [Lib.toList_data] at q
      exact hsne (ByteArray.ext (Array.toList_inj.1 q))
    have s3 : s.toList.isEmpty = false := by simpa using s2
    have hb0 := bt_nat s 0
    have r0 := bt_range s 0
    have g0 : (bytesOf s).getD 0 0 = bt s 0 := by rw [← rd_bytesOf]; rfl
    rw [show bt s ((0 : Nat) : Int) = bt s 0 from rfl] at hb0
    have hsz : 0 < s.size := by omega
    obtain ⟨F, hF⟩ : ∃ F, ctrlF (bytesOf s) = F := ⟨_, rfl⟩
    rw [hF]
    unfold ctrlF at hF
    rw [if_neg (by rw [bytesOf_length]; exact h0), g0, bytesOf_length] at hF
    obtain ⟨x, hx⟩ : ∃ x, bt s 0 = x := ⟨_, rfl⟩
    rw [hx] at hb0 r0 hF
    have hkr := kindAt_range x
    obtain ⟨K, hK⟩ : ∃ K, kindOf x = K := ⟨_, rfl⟩
    have hKr := kindOf_range x
    rw [hK] at hF hKr
    have HF := Lib.hid hF
    have HK := Lib.hid hK
    have HS := Lib.hid hsz
    have a0 := u8_and1 x r0.1 (by omega)
    have R0 := Lib.hid r0
    have hq : kindAt x - 1 + 1 = kindAt x := by omega
    obtain ⟨a, ha⟩ : ∃ a, kindAt x = a := ⟨_, rfl⟩
    have HA := Lib.hid ha
    rw [ha] at hq hkr
    clear h0 hsne s2 g0 hF hK hx r0 ha hsz
    go_enter Tryz.func63, Tryz.ntmps63
    go_upto_if 18 with (go_at_call 89; refine (index_any x _ HT1.out).mono ?_; rw [HA.out]; rintro e w1 ⟨rfl, rfl⟩)
    go_cut [6] (fun kv wc => kv = .int .i64 K ∧ w.alloc (.cells #[.int .i64 0, .bool false, .int .i64 0, .int .i64 0] 116) = wc)
    case first =>
      by_cases h0 : a = 0
      · obtain ⟨b, hb⟩ : ∃ b, bits .andNot .u8 x 16 = b := ⟨_, rfl⟩
        have hk2 : kindAt b = K := by
          rw [← HK.out]
          unfold kindOf
          rw [if_pos (by rw [HA.out]; exact h0), hb]
        have hq2 : K - 1 + 1 = K := by omega
        have HK2 := Lib.hid hk2
        clear hk2
        subst h0
        go_wp2_with fail
        refine (index_any b _ HT1.out).mono ?_
        rw [HK2.out]
        rintro e w1 ⟨rfl, rfl⟩
        go_wp2_with fail
        go_meet
        case rel => exact ⟨rfl, rfl⟩
      · have hk2 : a = K := by
          rw [← HK.out]
          unfold kindOf
          rw [if_neg (by rw [HA.out]; exact h0), HA.out]
        subst hk2
        have q1 : (a == 0) = false := by simpa using h0
        clear h0
        go_wp2_with fail
        go_meet
        case rel => exact ⟨rfl, rfl⟩
    case rest =>
      obtain ⟨rfl, rfl⟩ := hcut
      clear hq hkr HA
      have hb1 := bt_nat s 1
      have r1 := bt_range s 1
      have g1 : (bytesOf s).getD 1 0 = bt s 1 := by rw [← rd_bytesOf]; rfl
      rw [show bt s ((1 : Nat) : Int) = bt s 1 from rfl] at hb1
      obtain ⟨y, hy⟩ : ∃ y, bt s 1 = y := ⟨_, rfl⟩
      rw [hy] at hb1 r1 g1
      have a1 := u8_and1 y r1.1 (by omega)
      have R1 := Lib.hid r1
      have hF := HF.out
      rw [g1] at hF
      clear HF g1 r1 hy
      by_cases hx : x % 2 = 0
      · rw [if_neg (by omega), if_neg (by omega)] at hF
        rw [hx] at a0
        have hnum : decide ((0 : Int) ≤ 0 ∧ (0 : Int) ≤ 3) = true := by decide
        by_cases h2 : s.size < 2
        · rw [if_pos h2] at hF
          subst hF
          clear hx
          go_wp2_with (go_at_call 57; refine (numbered_any _ _).mono ?_; rw [hnum]; rintro e w1 ⟨rfl, rfl⟩)
          refine bodyPost_ret (results_ctt rfl _ _ w.heap.size 116 #[.int .i64 0, .bool false, .int .i64 0, .int .i64 0] (0, 0) _ rfl (at_alloc (HN.out _ _ _ _) _) Tryz.underlying116 rfl (by kernel_rfl)) rfl ?_
          exact ⟨rfl, (HB.out _ _ _ _).alloc (HB.out (.int .i64 0) (.bool false) (.int .i64 0) (.int .i64 0)).size _⟩
        · rw [if_neg h2, if_pos hx, if_pos hx] at hF
          subst hF
          clear hx
          go_upto_region 16 with (go_at_call 57; refine (numbered_any _ _).mono ?_; rw [hnum]; rintro e w1 ⟨rfl, rfl⟩)
          go_cut [] (fun wc => CG w 0 (y % 2 == 1) (fieldV y 1 7) wc)
          case first =>
            go_wp2_with fail
            go_region_held3 (fun _ => True) (trivial) (first | (go_at_call 88; refine (field_any _ _ _ _ ?_ ?_).mono ?_; (exact R1.out); (decide); rintro e w2 ⟨rfl, n, rfl⟩))
            all_goals
              go_wp2_with fail
              go_meet
              case rel => exact cg_first
          case rest =>
            obtain ⟨d0, d1, db⟩ := hcut
            have e0 := at_cell d0 0
            have e1 := at_cell d0 1
            have e2 := at_cell d0 2
            have e3 := at_cell d0 3
            have f0 := at_cell d1 0
            have f1 := at_cell d1 1
            have f2 := at_cell d1 2
            have f3 := at_cell d1 3
            have j0 := at_frozen d0 0
            have j1 := at_frozen d0 1
            have j2 := at_frozen d0 2
            have j3 := at_frozen d0 3
            have l2 := at_frozen d1 2
            simp at e0 e1 e2 e3 f0 f1 f2 f3
            have D0 := Lib.hid d0
            have DB := Lib.hid db
            have hne : w.heap.size + 1 ≠ w.heap.size := by omega
            have hne2 : w.heap.size ≠ w.heap.size + 1 := by omega
            have hlt : w.heap.size + 1 < wc.heap.size := lt_of_at d1
            have D1 := Lib.hid d1
            clear d0 d1 db
            go_wp2_with fail
            refine (field_any x 1 7 _ R0.out (by decide)).mono ?_
            rintro e w2 ⟨rfl, n, rfl⟩
            go_wp2
            refine bodyPost_ret (results_ctt rfl _ _ w.heap.size 116 #[.int .i64 0, .bool (y % 2 == 1), .int .i64 (fieldV x 1 7), .int .i64 (fieldV y 1 7)] (0, 0) _ rfl (cg_last_even D0.out hne2) Tryz.underlying116 rfl (by kernel_rfl)) rfl ?_
            exact ⟨rfl, cg_below_even DB.out (Nat.le_succ _)⟩
      · have hx1 : x % 2 = 1 := by omega
        rw [hx1] at a0
        clear hx
        by_cases hk0 : K = 0
        · rw [if_pos ⟨by omega, Or.inl hk0⟩] at hF
          subst hF hk0
          go_wp2
          refine bodyPost_ret (results_ctt rfl _ _ w.heap.size 116 #[.int .i64 0, .bool false, .int .i64 0, .int .i64 0] (0, 0) _ rfl (HN.out _ _ _ _) Tryz.underlying116 rfl (by kernel_rfl)) rfl ?_
          exact ⟨rfl, HB.out _ _ _ _⟩
        · by_cases hk3 : 3 < K
          · rw [if_neg (by omega), if_pos ⟨by omega, hk3⟩] at hF
            subst hF
            have q1 : (K == 0) = false := by simpa using hk0
            have hnum : decide ((0 : Int) ≤ K ∧ K ≤ 3) = false := by simp; omega
            clear hk0 hk3
            go_wp2_with (go_at_call 57; refine (numbered_any _ _).mono ?_; rw [hnum]; rintro e w1 ⟨rfl, rfl⟩)
            refine bodyPost_ret (results_ctt rfl _ _ w.heap.size 116 #[.int .i64 K, .bool (bits .and .u8 x 16 != 0), .int .i64 0, .int .i64 0] (0, 0) _ rfl (at_alloc (HN.out _ _ _ _) _) Tryz.underlying116 rfl (by kernel_rfl)) rfl ?_
            exact ⟨rfl, (HB.out _ _ _ _).alloc (HB.out (.int .i64 K) (.bool (bits .and .u8 x 16 != 0)) (.int .i64 0) (.int .i64 0)).size _⟩
          · have hK3 : K = 1 ∨ K = 2 ∨ K = 3 := by omega
            clear hk0 hk3
            have t1 := HT.out.1 1 (by decide)
            have t2 := HT.out.1 2 (by decide)
            have t3 := HT.out.1 3 (by decide)
            simp [firstT] at t1 t2 t3
            have hl0 : 0 < w.heap.size := by have := HT.out.lt; omega
            rcases hK3 with rfl | rfl | rfl
            · have hnum : decide ((0 : Int) ≤ 1 ∧ (1 : Int) ≤ 3) = true := by decide
              by_cases hv : x = 1
              · subst hv
                rw [if_neg (by decide), if_neg (by decide)] at hF
                by_cases h2 : s.size < 2
                · rw [if_pos h2] at hF
                  subst hF
                  go_wp2_with (go_at_call 57; refine (numbered_any _ _).mono ?_; rw [hnum]; rintro e w1 ⟨rfl, rfl⟩)
                  refine bodyPost_ret (results_ctt rfl _ _ w.heap.size 116 #[.int .i64 0, .bool false, .int .i64 0, .int .i64 0] (0, 0) _ rfl (at_alloc (HN.out _ _ _ _) _) Tryz.underlying116 rfl (by kernel_rfl)) rfl ?_
                  exact ⟨rfl, (HB.out _ _ _ _).alloc (HB.out (.int .i64 0) (.bool false) (.int .i64 0) (.int .i64 0)).size _⟩
                · rw [if_neg h2, if_neg (by decide), if_neg (by decide)] at hF
                  subst hF
                  go_upto_region 16 with (go_at_call 57; refine (numbered_any _ _).mono ?_; rw [hnum]; rintro e w1 ⟨rfl, rfl⟩)
                  go_cut [] (fun wc => CG w 1 (y % 2 == 1) (fieldV y 1 7) wc)
                  case first =>
                    go_wp2_with fail
                    go_region_held3 (fun _ => True) (trivial) (first | (go_at_call 88; refine (field_any _ _ _ _ ?_ ?_).mono ?_; (exact R1.out); (decide); rintro e w2 ⟨rfl, n, rfl⟩))
                    all_goals
                      go_wp2_with fail
                      go_meet
                      case rel => exact cg_first
                  case rest =>
                    obtain ⟨d0, d1, db⟩ := hcut
                    have e0 := at_cell d0 0
                    have e1 := at_cell d0 1
                    have e2 := at_cell d0 2
                    have e3 := at_cell d0 3
                    have f0 := at_cell d1 0
                    have f1 := at_cell d1 1
                    have f2 := at_cell d1 2
                    have f3 := at_cell d1 3
                    have j0 := at_frozen d0 0
                    have j1 := at_frozen d0 1
                    have j2 := at_frozen d0 2
                    have j3 := at_frozen d0 3
                    have l2 := at_frozen d1 2
                    simp at e0 e1 e2 e3 f0 f1 f2 f3
                    have D0 := Lib.hid d0
                    have DB := Lib.hid db
                    have hne : w.heap.size + 1 ≠ w.heap.size := by omega
                    have hne2 : w.heap.size ≠ w.heap.size + 1 := by omega
                    have hlt : w.heap.size + 1 < wc.heap.size := lt_of_at d1
                    clear d0 d1 db
                    go_wp2
                    refine bodyPost_ret (results_ctt rfl _ _ w.heap.size 116 #[.int .i64 1, .bool (y % 2 == 1), .int .i64 (0), .int .i64 (fieldV y 1 7)] (0, 0) _ rfl (cg_last D0.out) Tryz.underlying116 rfl (by kernel_rfl)) rfl ?_
                    exact ⟨rfl, cg_below DB.out⟩
              · have qv : (x != 1) = true := by simpa using hv
                rw [if_pos ⟨by omega, Or.inr ⟨by decide, by intro q; exact hv q⟩⟩] at hF
                subst hF
                clear hv
                go_wp2_with (go_at_call 57; refine (numbered_any _ _).mono ?_; rw [hnum]; rintro e w1 ⟨rfl, rfl⟩)
                refine bodyPost_ret (results_ctt rfl _ _ w.heap.size 116 #[.int .i64 0, .bool false, .int .i64 0, .int .i64 0] (0, 0) _ rfl (HN.out _ _ _ _) Tryz.underlying116 rfl (by kernel_rfl)) rfl ?_
                exact ⟨rfl, HB.out _ _ _ _⟩
            · have hnum : decide ((0 : Int) ≤ 2 ∧ (2 : Int) ≤ 3) = true := by decide
              by_cases hv : x = 5
              · subst hv
                rw [if_neg (by decide), if_neg (by decide)] at hF
                by_cases h2 : s.size < 2
                · rw [if_pos h2] at hF
                  subst hF
                  go_wp2_with (go_at_call 57; refine (numbered_any _ _).mono ?_; rw [hnum]; rintro e w1 ⟨rfl, rfl⟩)
                  refine bodyPost_ret (results_ctt rfl _ _ w.heap.size 116 #[.int .i64 0, .bool false, .int .i64 0, .int .i64 0] (0, 0) _ rfl (at_alloc (HN.out _ _ _ _) _) Tryz.underlying116 rfl (by kernel_rfl)) rfl ?_
                  exact ⟨rfl, (HB.out _ _ _ _).alloc (HB.out (.int .i64 0) (.bool false) (.int .i64 0) (.int .i64 0)).size _⟩
                · rw [if_neg h2, if_neg (by decide), if_neg (by decide)] at hF
                  subst hF
                  go_upto_region 16 with (go_at_call 57; refine (numbered_any _ _).mono ?_; rw [hnum]; rintro e w1 ⟨rfl, rfl⟩)
                  go_cut [] (fun wc => CG w 2 (y % 2 == 1) (fieldV y 1 7) wc)
                  case first =>
                    go_wp2_with fail
                    go_region_held3 (fun _ => True) (trivial) (first | (go_at_call 88; refine (field_any _ _ _ _ ?_ ?_).mono ?_; (exact R1.out); (decide); rintro e w2 ⟨rfl, n, rfl⟩))
                    all_goals
                      go_wp2_with fail
                      go_meet
                      case rel => exact cg_first
                  case rest =>
                    obtain ⟨d0, d1, db⟩ := hcut
                    have e0 := at_cell d0 0
                    have e1 := at_cell d0 1
                    have e2 := at_cell d0 2
                    have e3 := at_cell d0 3
                    have f0 := at_cell d1 0
                    have f1 := at_cell d1 1
                    have f2 := at_cell d1 2
                    have f3 := at_cell d1 3
                    have j0 := at_frozen d0 0
                    have j1 := at_frozen d0 1
                    have j2 := at_frozen d0 2
                    have j3 := at_frozen d0 3
                    have l2 := at_frozen d1 2
                    simp at e0 e1 e2 e3 f0 f1 f2 f3
                    have D0 := Lib.hid d0
                    have DB := Lib.hid db
                    have hne : w.heap.size + 1 ≠ w.heap.size := by omega
                    have hne2 : w.heap.size ≠ w.heap.size + 1 := by omega
                    have hlt : w.heap.size + 1 < wc.heap.size := lt_of_at d1
                    clear d0 d1 db
                    go_wp2
                    refine bodyPost_ret (results_ctt rfl _ _ w.heap.size 116 #[.int .i64 2, .bool (y % 2 == 1), .int .i64 (0), .int .i64 (fieldV y 1 7)] (0, 0) _ rfl (cg_last D0.out) Tryz.underlying116 rfl (by kernel_rfl)) rfl ?_
                    exact ⟨rfl, cg_below DB.out⟩
              · have qv : (x != 5) = true := by simpa using hv
                rw [if_pos ⟨by omega, Or.inr ⟨by decide, by intro q; exact hv q⟩⟩] at hF
                subst hF
                clear hv
                go_wp2_with (go_at_call 57; refine (numbered_any _ _).mono ?_; rw [hnum]; rintro e w1 ⟨rfl, rfl⟩)
                refine bodyPost_ret (results_ctt rfl _ _ w.heap.size 116 #[.int .i64 0, .bool false, .int .i64 0, .int .i64 0] (0, 0) _ rfl (HN.out _ _ _ _) Tryz.underlying116 rfl (by kernel_rfl)) rfl ?_
                exact ⟨rfl, HB.out _ _ _ _⟩
            · have hnum : decide ((0 : Int) ≤ 3 ∧ (3 : Int) ≤ 3) = true := by decide
              by_cases hv : x = 9
              · subst hv
                rw [if_neg (by decide), if_neg (by decide)] at hF
                by_cases h2 : s.size < 2
                · rw [if_pos h2] at hF
                  subst hF
                  go_wp2_with (go_at_call 57; refine (numbered_any _ _).mono ?_; rw [hnum]; rintro e w1 ⟨rfl, rfl⟩)
                  refine bodyPost_ret (results_ctt rfl _ _ w.heap.size 116 #[.int .i64 0, .bool false, .int .i64 0, .int .i64 0] (0, 0) _ rfl (at_alloc (HN.out _ _ _ _) _) Tryz.underlying116 rfl (by kernel_rfl)) rfl ?_
                  exact ⟨rfl, (HB.out _ _ _ _).alloc (HB.out (.int .i64 0) (.bool false) (.int .i64 0) (.int .i64 0)).size _⟩
                · rw [if_neg h2, if_neg (by decide), if_neg (by decide)] at hF
                  subst hF
                  go_upto_region 16 with (go_at_call 57; refine (numbered_any _ _).mono ?_; rw [hnum]; rintro e w1 ⟨rfl, rfl⟩)
                  go_cut [] (fun wc => CG w 3 (y % 2 == 1) (fieldV y 1 7) wc)
                  case first =>
                    go_wp2_with fail
                    go_region_held3 (fun _ => True) (trivial) (first | (go_at_call 88; refine (field_any _ _ _ _ ?_ ?_).mono ?_; (exact R1.out); (decide); rintro e w2 ⟨rfl, n, rfl⟩))
                    all_goals
                      go_wp2_with fail
                      go_meet
                      case rel => exact cg_first
                  case rest =>
                    obtain ⟨d0, d1, db⟩ := hcut
                    have e0 := at_cell d0 0
                    have e1 := at_cell d0 1
                    have e2 := at_cell d0 2
                    have e3 := at_cell d0 3
                    have f0 := at_cell d1 0
                    have f1 := at_cell d1 1
                    have f2 := at_cell d1 2
                    have f3 := at_cell d1 3
                    have j0 := at_frozen d0 0
                    have j1 := at_frozen d0 1
                    have j2 := at_frozen d0 2
                    have j3 := at_frozen d0 3
                    have l2 := at_frozen d1 2
                    simp at e0 e1 e2 e3 f0 f1 f2 f3
                    have D0 := Lib.hid d0
                    have DB := Lib.hid db
                    have hne : w.heap.size + 1 ≠ w.heap.size := by omega
                    have hne2 : w.heap.size ≠ w.heap.size + 1 := by omega
                    have hlt : w.heap.size + 1 < wc.heap.size := lt_of_at d1
                    clear d0 d1 db
                    go_wp2
                    refine bodyPost_ret (results_ctt rfl _ _ w.heap.size 116 #[.int .i64 3, .bool (y % 2 == 1), .int .i64 (0), .int .i64 (fieldV y 1 7)] (0, 0) _ rfl (cg_last D0.out) Tryz.underlying116 rfl (by kernel_rfl)) rfl ?_
                    exact ⟨rfl, cg_below DB.out⟩
              · have qv : (x != 9) = true := by simpa using hv
                rw [if_pos ⟨by omega, Or.inr ⟨by decide, by intro q; exact hv q⟩⟩] at hF
                subst hF
                clear hv
                go_wp2_with (go_at_call 57; refine (numbered_any _ _).mono ?_; rw [hnum]; rintro e w1 ⟨rfl, rfl⟩)
                refine bodyPost_ret (results_ctt rfl _ _ w.heap.size 116 #[.int .i64 0, .bool false, .int .i64 0, .int .i64 0] (0, 0) _ rfl (HN.out _ _ _ _) Tryz.underlying116 rfl (by kernel_rfl)) rfl ?_
                exact ⟨rfl, HB.out _ _ _ _⟩
end Go.Proofs.YtlfcfmdblmedcaaGreatDoor.Mine
