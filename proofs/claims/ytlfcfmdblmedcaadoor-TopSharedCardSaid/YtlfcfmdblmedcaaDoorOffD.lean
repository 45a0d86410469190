/- The contract of the office's say. -/
import Derived.Test.YtlfcfmdblmedcaaDoorOffC
namespace Go.Proofs.YtlfcfmdblmedcaaDoor.Mine
open Go.RowKit Go.Maps Go.Proofs.YtlfcfmdblmedcaaDoorW.PrintWords

theorem SaysR.first {s s' : SS} {us us' : List UR} {l : List Ef} {m : Nat} (h : SaysR s us l s' us' m) : ∃ next s1 us1, RoundR s us l next s1 us1 ∧ next.length ≤ 100 ∧ 1 ≤ m ∧ ((next = [] ∧ s1 = s' ∧ us1 = us') ∨ (next ≠ [] ∧ ∃ m', m = m' + 1 ∧ SaysR s1 us1 next s' us' m')) := by
  cases h with
  | done h => exact ⟨[], _, _, h, by simp, Nat.le_refl _, Or.inl ⟨rfl, rfl, rfl⟩⟩
  | more h h1 h2 h3 => exact ⟨_, _, _, h, h2, by omega, Or.inr ⟨h1, _, rfl, h3⟩⟩
theorem ptrs_get (us : List UR) (i : Nat) (u : UR) (h : us[i]? = some u) : (ptrs us)[i]? = some (.pointer (some ⟨u.g, 0, none⟩)) := by simp [ptrs, h]
theorem own_none {w : World} {B : Nat} {e : TypeId} {s n : Nat} {v : Value} {xs : List Value} (h : w.ownsRow B e s v n xs) (hn : 0 < n) : ∃ r cp, v = .slice (some ⟨r, 0, none⟩) n cp := by
  rcases h.2 with ⟨-, h0⟩ | ⟨r, cap, cur, rfl, -⟩
  · omega
  · exact ⟨r, cap, rfl⟩

set_option maxHeartbeats 8000000 in
set_option maxRecDepth 100000 in
theorem say_any {B0 Z Bl go g gp gm m : Nat} {s s' : SS} {us us' : List UR} {uv lv : Value} {l : List Ef} (w : World) (hO : OffAt B0 Z w go g gp gm s us uv) (hl : w.ownsRow Bl 105 5 lv l.length (efCells l)) (hB : B0 ≤ w.heap.size) (hll : l.length ≤ 100) (hun : us.length ≤ 100) (hS : SaysR s us l s' us' m) (hm : m ≤ 100) :
    Calls Tryd.prog 19 #[.pointer (some ⟨go, 0, none⟩), lv] w fun e w' => e = .returned (.tuple #[]) ∧ OffAt B0 Z w' go g gp gm s' us' uv ∧ Below B0 w w' := by
  obtain ⟨Au, cu, rfl⟩ := own_slice hO.row
  obtain ⟨nU, hnU⟩ : ∃ nU, us.length = nU := ⟨_, rfl⟩
  rw [hnU] at hO hun ⊢
  have hI : ∃ (k m : Nat) (s : SS) (us : List UR) (l : List Ef) (Bl : Nat), (0 : Int) = (k : Int) ∧ k + m ≤ 100 ∧ SaysR s us l s' us' m ∧ OffAt B0 Z w go g gp gm s us (.slice Au nU cu) ∧ w.ownsRow Bl 105 5 lv l.length (efCells l) ∧ l.length ≤ 100 ∧ us.length = nU ∧ Below B0 w w :=
    ⟨0, m, s, us, l, Bl, rfl, by omega, hS, hO, hl, hll, hnU, Below.refl _ _⟩
  have HI := Lib.hid hI
  clear hI hO hl hS hll hnU
  go_enter Tryd.func19, Tryd.ntmps19
  go_wp2_with fail
  go_loopw [9, 1] (fun i lv wr => ∃ (k m : Nat) (s : SS) (us : List UR) (l : List Ef) (Bl : Nat), i = .int .i64 (k : Int) ∧ k + m ≤ 100 ∧ SaysR s us l s' us' m ∧ OffAt B0 Z wr go g gp gm s us (.slice Au nU cu) ∧ wr.ownsRow Bl 105 5 lv l.length (efCells l) ∧ l.length ≤ 100 ∧ us.length = nU ∧ Below B0 w wr) (fun i _ _ => 100 - (intOf i).toNat)
  case atStart =>
    obtain ⟨k, m, s, us, l, Bl, h0, h⟩ := HI.out
    exact ⟨k, m, s, us, l, Bl, by rw [h0], h⟩
  case round =>
    clear HI
    obtain ⟨k, m, s, us, l, Bl, rfl, hkm, hS, hO, hl, hll, hnu, hbel⟩ := hrel
    obtain ⟨next, s1, us1, hRd, hnl, hm1, hnx⟩ := hS.first
    obtain ⟨Al, cl, rfl⟩ := own_slice hl
    have hSI : SayI B0 Z wr.heap.size Bl w go g gp gm (.slice Au nU cu) (.slice Al l.length cl) l s us (.slice none 0 0) [] wr :=
      ⟨hO, own_nil _ _ _ _, hl, fun b hb => own_lt hl b hb, fun u hu => (hO.usr.all u hu).top, Nat.le_refl _, Nat.le_trans hB hbel.size, hbel⟩
    have HSI := Lib.hid hSI
    have HRD := Lib.hid hRd
    have HNX := Lib.hid hnx
    obtain ⟨B1, hB1⟩ : ∃ B1, wr.heap.size = B1 := ⟨_, rfl⟩
    rw [hB1] at HSI
    have hkk : (k : Int) < 100 := by omega
    clear hS hO hl hbel hSI hRd hnx hB1
    go_wp2_with fail
    go_loopw [13, 4] (fun i nv wr => ∃ (j : Nat) (sx : SS) (ux : List UR) (acc rest : List Ef), i = .int .i64 (j : Int) ∧ j ≤ l.length ∧ RoundR sx ux (l.drop j) rest s1 us1 ∧ acc ++ rest = next ∧ ux.length = nU ∧ SayI B0 Z B1 Bl w go g gp gm (.slice Au nU cu) (.slice Al l.length cl) l sx ux nv acc wr) (fun i _ _ => l.length - (intOf i).toNat)
    case atStart => exact ⟨0, s, us, [], next, rfl, Nat.zero_le _, by simpa using HRD.out, rfl, hnu, HSI.out⟩
    case round =>
      clear HSI HRD
      obtain ⟨j, sx, ux, acc, rest, rfl, hj, hR, hacc, hul, hI⟩ := hrel
      by_cases hjl : j < l.length
      · obtain ⟨x, hx⟩ : ∃ x, l[j]? = some x := ⟨l[j], List.getElem?_eq_getElem hjl⟩
        obtain ⟨rl, cl', hrl⟩ := own_none hI.lrow (by omega)
        injection hrl with hrl _ hcl
        subst hrl hcl
        have e0 := own_at hI.lrow (j * 5 + 0) _ (efc_get l j 0 x hx (by decide))
        have e1 := own_at hI.lrow (j * 5 + 1) _ (efc_get l j 1 x hx (by decide))
        have e2 := own_at hI.lrow (j * 5 + 2) _ (efc_get l j 2 x hx (by decide))
        have e3 := own_at hI.lrow (j * 5 + 3) _ (efc_get l j 3 x hx (by decide))
        have e4 := own_at hI.lrow (j * 5 + 4) _ (efc_get l j 4 x hx (by decide))
        rw [Nat.add_zero] at e0
        have hdrop : l.drop j = x :: l.drop (j + 1) := by
          rw [List.drop_eq_getElem_cons hjl]
          rw [List.getElem?_eq_getElem hjl] at hx
          injection hx with hx
          rw [hx]
        rw [hdrop] at hR
        obtain ⟨xk, xt, xr, xa, xe⟩ := x
        have hIb := hI.below ((Below.refl _ wr).alloc (Nat.le_refl _) (.cells #[.int .i64 xk, .int .i64 xt, .int .i64 xr, .int .i64 xa, .int .i64 xe] 105))
        have hbx := at_new wr (.cells #[.int .i64 xk, .int .i64 xt, .int .i64 xr, .int .i64 xa, .int .i64 xe] 105)
        obtain ⟨gi, fa, hob⟩ := hIb.off.box
        have o0 := at_cell hob 0
        have o1 := at_cell hob 1
        have o2 := at_cell hob 2
        have of2 := at_frozen hob 2
        have ol := lt_of_at hob
        simp only [List.getElem?_toArray, List.getElem?_cons_zero, List.getElem?_cons_succ] at o0 o1 o2
        have hnb : ∀ b, u4.ownBlock = some b → b ≠ wr.heap.size := fun b hb => by
          have := own_lt hI.nrow b hb
          omega
        have HI := Lib.hid hI
        have HIB := Lib.hid hIb
        have HBX := Lib.hid hbx
        have HNB := Lib.hid hnb
        have HACC := Lib.hid hacc
        clear hI hIb hbx hob hnb hacc hx hdrop
        cases hR with
        | send hk hA hR2 =>
          rename_i s2 us2 l1 l2
          dsimp only at hk hA
          subst hk
          have HA := Lib.hid hA
          have HR2 := Lib.hid hR2
          clear hA hR2
          go_wp2_with fail
          clear e0 e1 e2 e3 e4
          obtain ⟨bx, hbxe⟩ : ∃ bx, wr.heap.size = bx := ⟨_, rfl⟩
          rw [hbxe] at HBX HNB ⊢
          generalize wr.alloc (.cells #[.int .i64 0, .int .i64 xt, .int .i64 xr, .int .i64 xa, .int .i64 xe] 105) = Wb at HIB HBX o0 o1 o2 of2 ol ⊢
          clear o0 o1 o2 of2 ol hbxe HI
          go_loopw [35, 4] (fun i nv wr => ∃ (dn rs rsF : List UR) (sy : SS) (accx more : List Ef), i = .int .i64 (dn.length : Int) ∧ dn.length + rs.length = nU ∧ AllR xt xr xa sy rs more s2 rsF ∧ dn ++ rsF = us2 ∧ accx ++ (more ++ l2) = next ∧ SayI B0 Z B1 Bl w go g gp gm (.slice Au nU cu) (.slice (some ⟨rl, 0, none⟩) l.length cl) l sy (dn ++ rs) nv accx wr ∧ wr.heap[bx]? = some (.cells #[.int .i64 0, .int .i64 xt, .int .i64 xr, .int .i64 xa, .int .i64 xe] 105 (0, 0)) ∧ (∀ b, nv.ownBlock = some b → b ≠ bx)) (fun i _ _ => nU - (intOf i).toNat)
          case atStart => exact ⟨[], ux, us2, sx, acc, l1, rfl, by simpa using hul, HA.out, rfl, HACC.out, HIB.out, HBX.out, HNB.out⟩
          case round =>
            clear HIB HBX HNB HA HACC
            obtain ⟨dn, rs, rsF, sy, accx, more, rfl, hlen, hA, hus, hacc, hI, hbx, hnb⟩ := hrel
            cases hA with
            | nil =>
              simp at hlen
              rw [List.nil_append] at hacc
              rw [List.append_nil] at hus hI
              subst hus
              have HI := Lib.hid hI
              have HACC := Lib.hid hacc
              clear hI hbx hnb hacc
              go_wp2
              go_roundw
              case rel => exact ⟨j + 1, _, _, accx, l2, by go_num, by omega, HR2.out, HACC.out, by omega, HI.out⟩
              case measure => simp [intOf]; omega
            | cons hH hA2 =>
              rename_i sz u us' us'' m1 m2
              simp at hlen
              have hdl : dn.length < nU := by omega
              obtain ⟨ru, cu', hru⟩ := own_none hI.off.row (by simp; omega)
              have hul2 : (dn ++ u :: us').length = nU := by simp; omega
              have hrow := hI.off.row
              rw [hul2] at hrow hru
              injection hru with hru _ hcu
              subst hru hcu
              have p0 := own_at hrow dn.length _ (ptrs_get _ dn.length u (by simp))
              have HI := Lib.hid hI
              have HBX := Lib.hid hbx
              have HNB := Lib.hid hnb
              have HH := Lib.hid hH
              have HA2 := Lib.hid hA2
              have HUS := Lib.hid hus
              have HACC := Lib.hid hacc
              have b0 := at_cell hbx 0
              have b1 := at_cell hbx 1
              have b2 := at_cell hbx 2
              have b3 := at_cell hbx 3
              simp only [List.getElem?_toArray, List.getElem?_cons_zero, List.getElem?_cons_succ] at b0 b1 b2 b3
              clear hI hbx hnb hH hA2 hus hacc hrow
              go_wp2_with fail
              refine (message_any xt xr xa _ (HI.out.off.usr.all u (by simp)).at_).mono ?_
              rintro e w1 ⟨ve, rfl, d1, d2, d3⟩
              have hI1 := HI.out.turn (d := u.told xt xr xa) d3 d2
              have hU := HI.out.off.usr.all u (by simp)
              have hbx1 : w1.heap[bx]? = _ := d3.at HBX.out (by
                obtain ⟨A, c, a1, -⟩ := hU.at_.2.1.1
                have n1 := cells_ne HBX.out hU.at_.1 (by decide)
                have n2 := cells_ne HBX.out a1 (by decide)
                simp [uset, dset]
                exact ⟨n1, n2⟩)
              have HI1 := Lib.hid hI1
              have HE1 := Lib.hid d1
              have HBX1 := Lib.hid hbx1
              clear d1 d2 d3 hI1 hU hbx1 b0 b1 b2 b3 p0
              obtain ⟨gi1, fa1, hob1⟩ := HI1.out.off.box
              have hml : m1.length ≤ 100 ∧ accx.length ≤ 100 := by
                have := congrArg List.length HACC.out
                simp only [List.length_append] at this
                omega
              go_wp2_with fail
              refine (hear_any w1 hob1 HI1.out.off.src HE1.out (told_length u xt xr xa) HH.out hml.1).mono ?_
              rintro e w2 ⟨vh, rfl, q1, q2, q3⟩
              have hI2 := HI1.out.heard q2 q3
              have n1 := SAt.not HI1.out.off.src (a := bx) HBX1.out (by decide) (by decide)
              have hbx2 : w2.heap[bx]? = _ := q3.at HBX1.out (by simp at n1 ⊢; omega)
              obtain ⟨Ah, ch, rfl⟩ := own_slice q1
              have HI2 := Lib.hid hI2
              have HQ1 := Lib.hid q1
              have HBX2 := Lib.hid hbx2
              clear q1 q2 q3 hI2 n1 hbx2 hob1
              go_wp2_with (at_builtin; refine wpList_append_efs rfl _ _ rfl rfl rfl HI2.out.nrow HQ1.out HI2.out.hB (by omega) ?_)
              intro v3 w3 hown hgr hat
              have hI3 := HI2.out.grown (acc' := accx ++ m1) (by rw [List.length_append]; exact hown) hgr
              have hbx3 : w3.heap[bx]? = _ := (hgr.block bx (lt_of_at HBX2.out) (fun e => HNB.out bx e.symm rfl)).trans HBX2.out
              have hnb3 : ∀ b, v3.ownBlock = some b → b ≠ bx := fun b hb => by
                rcases hat with hat | hat
                · exact HNB.out b (by rw [← hat]; exact hb)
                · rw [hat] at hb
                  injection hb with hb
                  have := lt_of_at HBX2.out
                  omega
              have HI3 := Lib.hid hI3
              have HBX3 := Lib.hid hbx3
              have HNB3 := Lib.hid hnb3
              clear hI3 hbx3 hnb3 hown hgr hat
              go_wp2
              go_roundw
              case rel =>
                exact ⟨dn ++ [u.turn (u.told xt xr xa)], us', us'', sz, accx ++ m1, m2, by first | (go_num; done) | simp, by first | (simp; done) | (simp; omega), HA2.out, by simpa using HUS.out, by simpa using HACC.out, by simpa using HI3.out, HBX3.out, HNB3.out⟩
              case measure => simp [intOf]; omega
        | other hk hR2 =>
          dsimp only at hk
          have q0 : (xk == 0) = false := by simpa using hk
          have q1 : (xk != 0) = true := by simpa using hk
          have HR2 := Lib.hid hR2
          clear hR2 hk
          by_cases hk1 : xk = 1
          · subst hk1
            have HIG := Lib.hid (HIB.out.given (wrap64 (gi + 1)))
            go_wp2
            go_roundw
            case rel => exact ⟨j + 1, sx, ux, acc, rest, by go_num, by omega, HR2.out, HACC.out, hul, HIG.out⟩
            case measure => simp [intOf]; omega
          · have q2 : (xk == 1) = false := by simpa using hk1
            go_wp2
            go_roundw
            case rel => exact ⟨j + 1, sx, ux, acc, rest, by go_num, by omega, HR2.out, HACC.out, hul, HIB.out⟩
            case measure => simp [intOf]; omega
      · obtain rfl : j = l.length := by omega
        rw [List.drop_length] at hR
        cases hR
        rw [List.append_nil] at hacc
        subst hacc
        obtain ⟨An, cn, rfl⟩ := own_slice hI.nrow
        have HI := Lib.hid hI
        clear hI
        rcases HNX.out with ⟨h0, rfl, rfl⟩ | ⟨h0, m', rfl, hS'⟩
        · subst h0
          go_wp2
          refine bodyPost_ret (results_none rfl _ _ _) rfl ?_
          exact ⟨rfl, HI.out.off, HI.out.bel⟩
        · have hpos : acc.length ≠ 0 := fun e => h0 (List.length_eq_zero_iff.1 e)
          have HS' := Lib.hid hS'
          have q0 : ((acc.length : Int) == 0) = false := by simpa using hpos
          clear hS' HNX h0
          go_wp2
          go_roundw
          case rel => exact ⟨k + 1, m', s1, us1, acc, B1, by go_num, by omega, HS'.out, HI.out.off, HI.out.nrow, hnl, hul, HI.out.bel⟩
          case measure => simp [intOf]; omega
end Go.Proofs.YtlfcfmdblmedcaaDoor.Mine
