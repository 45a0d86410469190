/- All comes (drain); nothing is lost any more, and all timers are over (settle). -/
import Derived.Test.YtlfcfmdblmedcaaGreatDoorMPrF
namespace Go.Proofs.YtlfcfmdblmedcaaGreatDoor.Mine
open Go.RowKit Go.Maps Go.Proofs.YtlfcfmdblmedcaaGreatDoorW.PrintWords

/-- The next frame to the first side comes, if there is one. -/
inductive ComeR : SG → SG → Bool → SG → SG → Prop
  | none {a b : SG} : a.F = [] → ComeR a b false a b
  | some {a b : SG} {f : FrV} {r : List FrV} {E' : EN} {outs : List XE} : a.F = f :: r → FrameOk a.E f E' outs → (∀ x, E'.φ.lv.ownBlock = some x → a.E.φ.lv.ownBlock = some x) → (∀ x, x ∈ outs → Good x) → outs.length ≤ 10 → ComeR a b true (stepA a r E' outs) (outs.foldl effB b)
/-- All comes, in so many rounds. -/
inductive DrainR : SG → SG → Nat → SG → SG → Prop
  | stop {a b : SG} : a.F = [] → b.F = [] → DrainR a b 0 a b
  | more {a b a1 b1 a2 b2 a' b' : SG} {r0 r1 : Bool} {n : Nat} : ComeR a b r0 a1 b1 → ComeR b1 a1 r1 b2 a2 → (r0 || r1) = true → DrainR a2 b2 n a' b' → DrainR a b (n + 1) a' b'
section
variable {W0 : World} {X : List (Nat × Array Value)} {p : Nat} {a b a' b' : SG} {c : Nat} {nx : Int}
theorem comeR_0 {res : Bool} (w : World) (HT : Tabs W0) (h : PairAt W0.heap.size W0 X p false a b c nx w) (hR : ComeR a b res a' b') (hc : c ≤ 900000000) :
    Calls Tryz.prog 7 #[.pointer (some ⟨p, 0, none⟩), .int .i64 0, .bool false] w fun en w' => en = .returned (.bool res) ∧ PairAt W0.heap.size W0 X p false a' b' (c + 30) nx w' := by
  cases hR with
  | none hF =>
    refine (comeNone_0 false w h hF).mono ?_
    rintro en w' ⟨rfl, rfl⟩
    exact ⟨rfl, h.more (by omega)⟩
  | some hF hok hlv hgd hl => exact come_0 w h HT hF hok hlv hgd hl hc
theorem comeR_1 {res : Bool} (w : World) (HT : Tabs W0) (h : PairAt W0.heap.size W0 X p false b a c nx w) (hR : ComeR a b res a' b') (hc : c ≤ 900000000) :
    Calls Tryz.prog 7 #[.pointer (some ⟨p, 0, none⟩), .int .i64 1, .bool false] w fun en w' => en = .returned (.bool res) ∧ PairAt W0.heap.size W0 X p false b' a' (c + 30) nx w' := by
  cases hR with
  | none hF =>
    refine (comeNone_1 false w h.swap hF).mono ?_
    rintro en w' ⟨rfl, rfl⟩
    exact ⟨rfl, h.more (by omega)⟩
  | some hF hok hlv hgd hl =>
    refine (come_1 w h.swap HT hF hok hlv hgd hl hc).mono ?_
    rintro en w' ⟨rfl, h1⟩
    exact ⟨rfl, h1.swap⟩
set_option maxHeartbeats 4000000 in
theorem drain_any {n : Nat} (w : World) (HT : Tabs W0) (h : PairAt W0.heap.size W0 X p false a b c nx w) (hD : DrainR a b n a' b') (hn : n ≤ 100) (hc : c ≤ 800000000) :
    Calls Tryz.prog 13 #[.pointer (some ⟨p, 0, none⟩)] w fun en w' => en = .returned (.tuple #[]) ∧ PairAt W0.heap.size W0 X p false a' b' (c + 10000) nx w' := by
  have HI := Lib.hid (show ∃ (j m : Nat) (x y : SG), (0 : Int) = (j : Int) ∧ j + m ≤ 100 ∧ DrainR x y m a' b' ∧ PairAt W0.heap.size W0 X p false x y (c + 60 * j) nx w from ⟨0, n, a, b, rfl, by omega, hD, h⟩)
  have HTT := Lib.hid HT
  clear h hD HT
  go_enter Tryz.func13, Tryz.ntmps13
  go_wp2_with fail
  go_loopw [4] (fun i wr => ∃ (j m : Nat) (x y : SG), i = .int .i64 (j : Int) ∧ j + m ≤ 100 ∧ DrainR x y m a' b' ∧ PairAt W0.heap.size W0 X p false x y (c + 60 * j) nx wr) (fun i _ => 5000 - (intOf i).toNat)
  case atStart =>
    obtain ⟨j, m, x, y, h0, h⟩ := HI.out
    exact ⟨j, m, x, y, by rw [h0], h⟩
  case round =>
    clear HI
    obtain ⟨j, m, x, y, rfl, hjm, hD, hP⟩ := hrel
    have hj : (j : Int) < 5000 := by omega
    cases hD with
    | stop hFa hFb =>
      have HP := Lib.hid hP
      have HA := Lib.hid hFa
      have HB := Lib.hid hFb
      clear hP hFa hFb
      go_wp2_with fail
      refine (comeNone_0 false _ HP.out HA.out).mono ?_
      rintro en w1 ⟨rfl, rfl⟩
      go_wp2_with fail
      refine (comeNone_1 false _ HP.out.swap HB.out).mono ?_
      rintro en w1 ⟨rfl, rfl⟩
      go_wp2
      refine bodyPost_ret (results_none rfl _ _ _) rfl ?_
      exact ⟨rfl, HP.out.more (by omega)⟩
    | more h0 h1 hor hD2 =>
      rename_i a1 b1 a2 b2 r0 r1 m
      have HP := Lib.hid hP
      have H0 := Lib.hid h0
      have H1 := Lib.hid h1
      have HD := Lib.hid hD2
      clear hP h0 h1 hD2
      go_wp2_with fail
      refine (comeR_0 _ HTT.out HP.out H0.out (by omega)).mono ?_
      rintro en w1 ⟨rfl, hP1⟩
      have HP1 := Lib.hid hP1
      clear hP1
      go_wp2_with fail
      refine (comeR_1 _ HTT.out HP1.out H1.out (by omega)).mono ?_
      rintro en w2 ⟨rfl, hP2⟩
      have HP2 := Lib.hid hP2
      clear hP2
      cases r0 <;> cases r1
      · simp at hor
      all_goals (
        clear hor
        go_wp2
        go_roundw
        case rel => exact ⟨j + 1, m, _, _, by go_num, by omega, HD.out, HP2.out.more (by omega)⟩
        case measure => simp [intOf]; omega)
end
/-- Side 0's, side 1's T200 is over, if it runs; and all comes. -/
inductive HalfR0 : SG → SG → SG → SG → Prop
  | skip {x y : SG} : x.E.r0 = false → HalfR0 x y x y
  | go {x y x' y' : SG} {E' : EN} {outs : List XE} {n : Nat} : x.F = [] → y.F = [] → x.E.r0 = true → TimeOk x.E 200 E' outs → (∀ u, E'.φ.lv.ownBlock = some u → x.E.φ.lv.ownBlock = some u) → (∀ u, u ∈ outs → Good u) → outs.length ≤ 10 → DrainR (stepA x [] E' outs) (outs.foldl effB y) n x' y' → n ≤ 100 → HalfR0 x y x' y'
inductive HalfR1 : SG → SG → SG → SG → Prop
  | skip {x y : SG} : y.E.r0 = false → HalfR1 x y x y
  | go {x y x' y' : SG} {E' : EN} {outs : List XE} {n : Nat} : x.F = [] → y.F = [] → y.E.r0 = true → TimeOk y.E 200 E' outs → (∀ u, E'.φ.lv.ownBlock = some u → y.E.φ.lv.ownBlock = some u) → (∀ u, u ∈ outs → Good u) → outs.length ≤ 10 → DrainR (outs.foldl effB x) (stepA y [] E' outs) n x' y' → n ≤ 100 → HalfR1 x y x' y'
inductive RoundsR : SG → SG → Nat → SG → SG → Prop
  | nil {x y : SG} : RoundsR x y 0 x y
  | cons {x y x1 y1 x2 y2 x3 y3 x' y' : SG} {n m : Nat} : DrainR x y n x1 y1 → n ≤ 100 → HalfR0 x1 y1 x2 y2 → HalfR1 x2 y2 x3 y3 → RoundsR x3 y3 m x' y' → RoundsR x y (m + 1) x' y'
theorem field_t200 {st tries vs va vr s l : Int} {asked r0 r3 : Bool} (W : World) : (Instr.field 38 (.agg #[.int .i64 st, .int .i64 70, .int .i64 tries, .bool asked, .bool r0, .bool r3, .int .i64 0, .int .i64 vs, .int .i64 va, .int .i64 vr, .bool false, .bool false, .bool false, .int .i64 s, .int .i64 l]) 4).run Tryz.prog W = .ok (.bool r0) W := by kernel_rfl
theorem field_state {st tries vs va vr s l : Int} {asked r0 r3 : Bool} (W : World) : (Instr.field 38 (.agg #[.int .i64 st, .int .i64 70, .int .i64 tries, .bool asked, .bool r0, .bool r3, .int .i64 0, .int .i64 vs, .int .i64 va, .int .i64 vr, .bool false, .bool false, .bool false, .int .i64 s, .int .i64 l]) 0).run Tryz.prog W = .ok (.int .i64 st) W := by kernel_rfl
end Go.Proofs.YtlfcfmdblmedcaaGreatDoor.Mine
/- Nothing is lost any more, and all timers are over, again and again (settle; written by wip/prh.py). -/
namespace Go.Proofs.YtlfcfmdblmedcaaGreatDoor.Mine
open Go.RowKit Go.Maps Go.Proofs.YtlfcfmdblmedcaaGreatDoorW.PrintWords
set_option linter.unusedSimpArgs false
section
variable {W0 : World} {X : List (Nat × Array Value)} {p : Nat} {a b a' b' : SG} {c : Nat} {nx : Int}
def SetOk (s : SG) : Prop := (s.E.st = 5 ∨ s.E.st = 7 ∨ s.E.st = 8) ∧ s.E.φ = FS.zero
set_option maxHeartbeats 8000000 in
set_option maxRecDepth 100000 in
theorem settle_any (w : World) (HT : Tabs W0) (h : PairAt W0.heap.size W0 X p false a b c nx w) (ha : SetOk a) (hb : SetOk b) (hR : RoundsR a b 40 a' b') (hc : c ≤ 100000000) :
    Calls Tryz.prog 9 #[.pointer (some ⟨p, 0, none⟩), .int .i64 40] w fun en w' => en = .returned (.tuple #[]) ∧ PairAt W0.heap.size W0 X p false a' b' (c + 10000000) nx w' := by
  have hf := fun (st tries vs va vr s l : Int) (asked r0 r3 : Bool) W => field_t200 (st := st) (tries := tries) (vs := vs) (va := va) (vr := vr) (s := s) (l := l) (asked := asked) (r0 := r0) (r3 := r3) W
  have HTT := Lib.hid HT
  have HP := Lib.hid h
  have HA := Lib.hid ha
  have HB := Lib.hid hb
  have HR := Lib.hid hR
  clear h HT ha hb hR
  go_enter Tryz.func9, Tryz.ntmps9
  go_wp2_with fail
  go_loopw [6] (fun i wr => (i = .int .i64 0 ∧ PairAt W0.heap.size W0 X p false a b c nx wr) ∨ (i = .int .i64 1 ∧ PairAt W0.heap.size W0 X p false a b (c + 30) nx wr) ∨ (i = .int .i64 2 ∧ PairAt W0.heap.size W0 X p false a b (c + 60) nx wr)) (fun i _ => 2 - (intOf i).toNat)
  case atStart => exact Or.inl ⟨rfl, HP.out⟩
  case round =>
    clear HP
    rcases hrel with ⟨rfl, hP⟩ | ⟨rfl, hP⟩ | ⟨rfl, hP⟩
    · have HP := Lib.hid hP
      clear hP
      go_wp2_with fail
      refine (askReady_0 _ HP.out HA.out.1 HA.out.2 (by omega)).mono ?_
      rintro en w1 ⟨rfl, h1⟩
      have H1 := Lib.hid h1
      clear h1
      go_wp2
      go_roundw
      case rel => exact Or.inr (Or.inl ⟨rfl, H1.out⟩)
      case measure => simp [intOf]
    · have HP := Lib.hid hP
      clear hP
      go_wp2_with fail
      refine (askReady_1 _ HP.out.swap HB.out.1 HB.out.2 (by omega)).mono ?_
      rintro en w1 ⟨rfl, h1⟩
      have H1 := Lib.hid h1.swap
      clear h1
      go_wp2
      go_roundw
      case rel => exact Or.inr (Or.inr ⟨rfl, H1.out⟩)
      case measure => simp [intOf]
    · have HI := Lib.hid (show ∃ (j m : Nat) (x y : SG), (0 : Int) = (j : Int) ∧ j + m = 40 ∧ RoundsR x y m a' b' ∧ PairAt W0.heap.size W0 X p false x y (c + 60 + 100000 * j) nx wr from ⟨0, 40, a, b, rfl, rfl, HR.out, hP⟩)
      clear hP HR HA HB
      go_wp2_with fail
      go_loopw [14] (fun i wr => ∃ (j m : Nat) (x y : SG), i = .int .i64 (j : Int) ∧ j + m = 40 ∧ RoundsR x y m a' b' ∧ PairAt W0.heap.size W0 X p false x y (c + 60 + 100000 * j) nx wr) (fun i _ => 40 - (intOf i).toNat)
      case atStart =>
        obtain ⟨j, m, x, y, h0, h⟩ := HI.out
        exact ⟨j, m, x, y, by rw [h0], h⟩
      case round =>
        clear HI
        obtain ⟨j, m, x, y, rfl, hjm, hR, hP⟩ := hrel
        cases hR with
        | nil =>
          have hj : (j : Int) = 40 := by omega
          have HP := Lib.hid (hP.more (c' := c + 10000000) (by omega))
          have hj2 : ¬ (j : Int) < 40 := by omega
          clear hP hj
          go_wp2
          go_end0
          exact ⟨rfl, HP.out⟩
        | cons hD hn h0 h1 hR2 =>
          rename_i x1 y1 x2 y2 x3 y3 n m
          have hj2 : (j : Int) < 40 := by omega
          have HP := Lib.hid hP
          have HD := Lib.hid hD
          have H0 := Lib.hid h0
          have H1 := Lib.hid h1
          have HR2 := Lib.hid hR2
          clear hP hD h0 h1 hR2
          go_wp2_with fail
          refine (drain_any _ HTT.out HP.out HD.out hn (by omega)).mono ?_
          rintro en w1 ⟨rfl, hP1⟩
          have HP1 := Lib.hid hP1
          clear hP1
          go_wp2_with fail
          go_loopw [18] (fun i wr => (i = .int .i64 0 ∧ PairAt W0.heap.size W0 X p false x1 y1 (c + 60 + 100000 * j + 10000) nx wr) ∨ (i = .int .i64 1 ∧ PairAt W0.heap.size W0 X p false x2 y2 (c + 60 + 100000 * j + 30000) nx wr) ∨ (i = .int .i64 2 ∧ PairAt W0.heap.size W0 X p false x3 y3 (c + 60 + 100000 * j + 60000) nx wr)) (fun i _ => 2 - (intOf i).toNat)
          case atStart => exact Or.inl ⟨rfl, HP1.out⟩
          case round =>
            clear HP1
            rcases hrel with ⟨rfl, hP⟩ | ⟨rfl, hP⟩ | ⟨rfl, hP⟩
            · obtain ⟨A, B, er, hPI⟩ := hP
              have pen := at_cell hPI.box 0
              simp only [pairCells, List.getElem?_toArray, List.getElem?_cons_zero, List.getElem?_cons_succ] at pen
              have HPI := Lib.hid hPI
              clear hPI
              go_wp2_with fail
              refine (eview_any x1.E _ _ _ _ _ _ HPI.out.sa.en).mono ?_
              rintro en w2 ⟨rfl, b2⟩
              have HP2 := Lib.hid (show PairAt W0.heap.size W0 X p false x1 y1 (c + 60 + 100000 * j + 10000) nx w2 from ⟨_, _, _, HPI.out.keep b2 HPI.out.hZ⟩)
              clear b2 pen HPI
              unfold evG
              have hH := H0.out
              cases hH with
              | skip hr =>
                rw [hr]
                go_wp2
                go_roundw
                case rel => exact Or.inr (Or.inl ⟨rfl, HP2.out.more (by omega)⟩)
                case measure => simp [intOf]
              | go hFa hFb hr hok hlv hgd hl hD3 hn3 =>
                rw [hr]
                have HFa := Lib.hid hFa
                have HFb := Lib.hid hFb
                have HRr := Lib.hid hr
                have HOK := Lib.hid hok
                have HLV := Lib.hid hlv
                have HGD := Lib.hid hgd
                have HD3 := Lib.hid hD3
                clear hFa hFb hr hok hlv hgd hD3
                go_wp2_with fail
                refine (over200_0 _ HP2.out HFa.out HFb.out HRr.out HOK.out HLV.out HGD.out hl (by omega)).mono ?_
                rintro en w3 ⟨rfl, h3⟩
                have H3 := Lib.hid h3
                clear h3
                go_wp2_with fail
                refine (drain_any _ HTT.out H3.out HD3.out hn3 (by omega)).mono ?_
                rintro en w4 ⟨rfl, h4⟩
                have H4 := Lib.hid h4
                clear h4
                go_wp2
                go_roundw
                case rel => exact Or.inr (Or.inl ⟨rfl, H4.out.more (by omega)⟩)
                case measure => simp [intOf]
            · obtain ⟨A, B, er, hPI⟩ := hP
              have pen := at_cell hPI.box 1
              simp only [pairCells, List.getElem?_toArray, List.getElem?_cons_zero, List.getElem?_cons_succ] at pen
              have HPI := Lib.hid hPI
              clear hPI
              go_wp2_with fail
              refine (eview_any y2.E _ _ _ _ _ _ HPI.out.sb.en).mono ?_
              rintro en w2 ⟨rfl, b2⟩
              have HP2 := Lib.hid (show PairAt W0.heap.size W0 X p false x2 y2 (c + 60 + 100000 * j + 30000) nx w2 from ⟨_, _, _, HPI.out.keep b2 HPI.out.hZ⟩)
              clear b2 pen HPI
              unfold evG
              have hH := H1.out
              cases hH with
              | skip hr =>
                rw [hr]
                go_wp2
                go_roundw
                case rel => exact Or.inr (Or.inr ⟨rfl, HP2.out.more (by omega)⟩)
                case measure => simp [intOf]
              | go hFa hFb hr hok hlv hgd hl hD3 hn3 =>
                rw [hr]
                have HFa := Lib.hid hFa
                have HFb := Lib.hid hFb
                have HRr := Lib.hid hr
                have HOK := Lib.hid hok
                have HLV := Lib.hid hlv
                have HGD := Lib.hid hgd
                have HD3 := Lib.hid hD3
                clear hFa hFb hr hok hlv hgd hD3
                go_wp2_with fail
                refine (over200_1 _ HP2.out.swap HFb.out HFa.out HRr.out HOK.out HLV.out HGD.out hl (by omega)).mono ?_
                rintro en w3 ⟨rfl, h3⟩
                have H3 := Lib.hid h3.swap
                clear h3
                go_wp2_with fail
                refine (drain_any _ HTT.out H3.out HD3.out hn3 (by omega)).mono ?_
                rintro en w4 ⟨rfl, h4⟩
                have H4 := Lib.hid h4
                clear h4
                go_wp2
                go_roundw
                case rel => exact Or.inr (Or.inr ⟨rfl, H4.out.more (by omega)⟩)
                case measure => simp [intOf]
            · have HP := Lib.hid hP
              clear hP
              go_wp2
              go_roundw
              case rel => exact ⟨j + 1, m, x3, y3, by go_num, by omega, HR2.out, HP.out.more (by omega)⟩
              case measure => simp [intOf]; omega
end
end Go.Proofs.YtlfcfmdblmedcaaGreatDoor.Mine
/- The law of two ends that meet, in plain Lean: whatever came and was lost, a round of settling opens both. -/
namespace Go.Proofs.YtlfcfmdblmedcaaGreatDoor.Mine
open Go.RowKit

/-- The state of an end: it asks for the link, has it, is unsure; with its tries. -/
inductive Md
  | C (t : Nat)
  | O (t : Nat)
  | R (t : Nat)
/-- What is on its way: SABME, UA, RR that asks, RR that answers. -/
inductive F4
  | S
  | U
  | Q
  | P
def Md.en (N : Int) : Md → EN
  | .C t => enC N t
  | .O t => enO N t
  | .R t => enR N t
def F4.fr : F4 → FrV
  | .S => fS
  | .U => fU
  | .Q => fQ
  | .P => fP
def stp : Md → F4 → Md × List F4 × Nat
  | .C t, .S => (.C t, [.U], 0)
  | .C t, .U => (.O t, [], 1)
  | .C t, .Q => (.C t, [], 0)
  | .C t, .P => (.C t, [], 0)
  | .O t, .S => (.O t, [.U], 0)
  | .O t, .U => (.O t, [], 0)
  | .O t, .Q => (.O t, [.P], 0)
  | .O t, .P => (.O t, [], 0)
  | .R t, .S => (.O t, [.U], 0)
  | .R t, .U => (.R t, [], 0)
  | .R t, .Q => (.R t, [.P], 0)
  | .R t, .P => (.O t, [], 0)
structure MS where
  m : Md
  F : List F4
  u : Nat
def MS.sg (N : Int) (s : MS) : SG := ⟨s.m.en N, s.F.map F4.fr, 0, s.u⟩
theorem en_lv (N : Int) (m : Md) (x : Nat) : (m.en N).φ.lv.ownBlock = some x → False := by
  cases m <;> simp [Md.en, enC, enO, enR, FS.zero, Value.ownBlock]
theorem stp_ok (N : Int) (m : Md) (f : F4) : ∃ outs, FrameOk (m.en N) f.fr ((stp m f).1.en N) outs ∧ (∀ x, x ∈ outs → Good x) ∧ outs.length ≤ 10 ∧ (∀ (E : EN) (F : List FrV) (nd u : Nat), outs.foldl effA ⟨E, F, nd, u⟩ = ⟨E, F, nd, u + (stp m f).2.2⟩ ∧ outs.foldl effB ⟨E, F, nd, u⟩ = ⟨E, F ++ (stp m f).2.1.map F4.fr, nd, u⟩) := by
  cases m <;> cases f
  · exact ⟨_, fr_C_S N _, by simp [Good, xU, xSend], by decide, fun E F nd u => by simp [effA, effB, xU, xSend, stp, F4.fr, fU, XE.fr]⟩
  · exact ⟨_, fr_C_U N _, by simp [Good, xTold, xTimer], by decide, fun E F nd u => by simp [effA, effB, xTold, xTimer, stp]⟩
  · exact ⟨_, fr_C_Q N _, by simp, by decide, fun E F nd u => by simp [stp]⟩
  · exact ⟨_, fr_C_P N _, by simp, by decide, fun E F nd u => by simp [stp]⟩
  · exact ⟨_, fr_O_S N _, by simp [Good, xU, xSend, xTold, xTimer], by decide, fun E F nd u => by simp [effA, effB, xU, xSend, xTold, xTimer, stp, F4.fr, fU, XE.fr]⟩
  · exact ⟨_, fr_O_U N _, by simp [Good, xTold], by decide, fun E F nd u => by simp [effA, effB, xTold, stp]⟩
  · exact ⟨_, fr_O_Q N _, by simp [Good, xP, xSend, xTimer], by decide, fun E F nd u => by simp [effA, effB, xP, xSend, xTimer, stp, F4.fr, fP, XE.fr]⟩
  · exact ⟨_, fr_O_P N _, by simp [Good, xTold, xTimer], by decide, fun E F nd u => by simp [effA, effB, xTold, xTimer, stp]⟩
  · exact ⟨_, fr_R_S N _, by simp [Good, xU, xSend, xTold, xTimer], by decide, fun E F nd u => by simp [effA, effB, xU, xSend, xTold, xTimer, stp, F4.fr, fU, XE.fr]⟩
  · exact ⟨_, fr_R_U N _, by simp [Good, xTold], by decide, fun E F nd u => by simp [effA, effB, xTold, stp]⟩
  · exact ⟨_, fr_R_Q N _, by simp [Good, xP, xSend], by decide, fun E F nd u => by simp [effA, effB, xP, xSend, stp, F4.fr, fP, XE.fr]⟩
  · exact ⟨_, fr_R_P N _, by simp [Good, xTimer], by decide, fun E F nd u => by simp [effA, effB, xTimer, stp]⟩
/-- The next frame to the first one comes. -/
def comeM (a b : MS) : Bool × MS × MS :=
  match a.F with
  | [] => (false, a, b)
  | f :: r => (true, ⟨(stp a.m f).1, r, a.u + (stp a.m f).2.2⟩, ⟨b.m, b.F ++ (stp a.m f).2.1, b.u⟩)
theorem comeM_ok (N : Int) (a b : MS) : ComeR (a.sg N) (b.sg N) (comeM a b).1 ((comeM a b).2.1.sg N) ((comeM a b).2.2.sg N) := by
  obtain ⟨am, aF, au⟩ := a
  obtain ⟨bm, bF, bu⟩ := b
  cases aF with
  | nil => exact ComeR.none rfl
  | cons f r =>
    obtain ⟨outs, h1, h2, h3, h4⟩ := stp_ok N am f
    have hc := ComeR.some (a := MS.sg N ⟨am, f :: r, au⟩) (b := MS.sg N ⟨bm, bF, bu⟩) (r := r.map F4.fr) rfl h1 (fun x hx => (en_lv N _ x hx).elim) h2 h3
    have e1 : stepA (MS.sg N ⟨am, f :: r, au⟩) (r.map F4.fr) ((stp am f).1.en N) outs = MS.sg N (comeM ⟨am, f :: r, au⟩ ⟨bm, bF, bu⟩).2.1 := (h4 _ _ _ _).1
    have e2 : outs.foldl effB (MS.sg N ⟨bm, bF, bu⟩) = MS.sg N (comeM ⟨am, f :: r, au⟩ ⟨bm, bF, bu⟩).2.2 := by
      refine (h4 _ _ _ _).2.trans ?_
      simp [MS.sg, comeM]
    rw [e1, e2] at hc
    exact hc
def wt : F4 → Nat
  | .S => 2
  | .U => 1
  | .Q => 2
  | .P => 1
def W : List F4 → Nat
  | [] => 0
  | f :: r => wt f + W r
theorem W_append (a b : List F4) : W (a ++ b) = W a + W b := by
  induction a with
  | nil => simp [W]
  | cons f r ih => simp [W, ih]; omega
theorem stp_wt (m : Md) (f : F4) : W (stp m f).2.1 + 1 ≤ wt f := by
  cases m <;> cases f <;> simp [stp, W, wt]
theorem comeM_wt (a b : MS) : W (comeM a b).2.1.F + W (comeM a b).2.2.F ≤ W a.F + W b.F := by
  obtain ⟨am, aF, au⟩ := a
  cases aF with
  | nil => exact Nat.le_refl _
  | cons f r =>
    have := stp_wt am f
    simp only [comeM, W_append, W]
    omega
theorem comeM_lt (a b : MS) (h : (comeM a b).1 = true) : W (comeM a b).2.1.F + W (comeM a b).2.2.F + 1 ≤ W a.F + W b.F := by
  obtain ⟨am, aF, au⟩ := a
  cases aF with
  | nil => cases h
  | cons f r =>
    have := stp_wt am f
    simp only [comeM, W_append, W]
    omega
theorem comeM_no (a b : MS) (h : (comeM a b).1 = false) : a.F = [] ∧ comeM a b = (false, a, b) := by
  obtain ⟨am, aF, au⟩ := a
  cases aF with
  | nil => exact ⟨rfl, rfl⟩
  | cons f r => cases h
theorem comeM_nil (a b : MS) (h : a.F = []) : comeM a b = (false, a, b) := by
  obtain ⟨am, aF, au⟩ := a
  dsimp only at h
  subst h
  rfl
/-- All comes. -/
def drainF : Nat → MS → MS → MS × MS
  | 0, a, b => (a, b)
  | n + 1, a, b => drainF n (comeM (comeM a b).2.2 (comeM a b).2.1).2.2 (comeM (comeM a b).2.2 (comeM a b).2.1).2.1
theorem drainF_still : ∀ (n : Nat) (a b : MS), a.F = [] → b.F = [] → drainF n a b = (a, b)
  | 0, a, b, _, _ => rfl
  | n + 1, a, b, ha, hb => by
    show drainF n _ _ = _
    rw [comeM_nil a b ha]
    dsimp only
    rw [comeM_nil b a hb]
    exact drainF_still n a b ha hb
theorem drainF_ok (N : Int) : ∀ (n : Nat) (a b : MS), W a.F + W b.F ≤ n → ((drainF n a b).1.F = [] ∧ (drainF n a b).2.F = []) ∧ ∃ k, k ≤ n ∧ DrainR (a.sg N) (b.sg N) k ((drainF n a b).1.sg N) ((drainF n a b).2.sg N)
  | n, a, b, h => by
    by_cases hab : a.F = [] ∧ b.F = []
    · rw [drainF_still n a b hab.1 hab.2]
      exact ⟨hab, 0, Nat.zero_le _, DrainR.stop (by simp [MS.sg, hab.1]) (by simp [MS.sg, hab.2])⟩
    · cases n with
      | zero =>
        exfalso
        apply hab
        constructor
        · cases hF : a.F with
          | nil => rfl
          | cons f r =>
            rw [hF] at h
            cases f <;> simp [W, wt] at h <;> omega
        · cases hF : b.F with
          | nil => rfl
          | cons f r =>
            rw [hF] at h
            cases f <;> simp [W, wt] at h <;> omega
      | succ n =>
        have hor : ((comeM a b).1 || (comeM (comeM a b).2.2 (comeM a b).2.1).1) = true := by
          cases h0 : (comeM a b).1 with
          | true => rfl
          | false =>
            obtain ⟨ha, hc⟩ := comeM_no a b h0
            rw [hc]
            cases h1 : (comeM b a).1 with
            | true => rfl
            | false => exact (hab ⟨ha, (comeM_no b a h1).1⟩).elim
        have hlt : W (comeM (comeM a b).2.2 (comeM a b).2.1).2.2.F + W (comeM (comeM a b).2.2 (comeM a b).2.1).2.1.F ≤ n := by
          have l1 := comeM_wt a b
          have l2 := comeM_wt (comeM a b).2.2 (comeM a b).2.1
          rcases Bool.or_eq_true _ _ ▸ hor with h0 | h0
          · have := comeM_lt a b h0
            omega
          · have := comeM_lt _ _ h0
            omega
        obtain ⟨h1, k, hk, h2⟩ := drainF_ok N n _ _ hlt
        exact ⟨h1, k + 1, by omega, DrainR.more (comeM_ok N a b) (comeM_ok N _ _) hor h2⟩

/-- Behind so many timeouts at most; who isn't asking was told of the link. -/
def InvM (T : Nat) : Md → Nat → Prop
  | .C t, _ => t ≤ T
  | .O t, u => t ≤ T ∧ 1 ≤ u
  | .R t, u => t ≤ T ∧ 1 ≤ u
def Inv (T : Nat) (a : MS) : Prop := InvM T a.m a.u
theorem InvM.more {T T' : Nat} {m : Md} {u : Nat} (h : InvM T m u) (hT : T ≤ T') : InvM T' m u := by
  cases m <;> simp only [InvM] at h ⊢ <;> omega
theorem stp_inv {T : Nat} {m : Md} {u : Nat} (f : F4) (h : InvM T m u) : InvM T (stp m f).1 (u + (stp m f).2.2) := by
  cases m <;> cases f <;> simp only [InvM, stp] at h ⊢ <;> omega
theorem comeM_inv {T : Nat} {a b : MS} (ha : Inv T a) (hb : Inv T b) : Inv T (comeM a b).2.1 ∧ Inv T (comeM a b).2.2 := by
  obtain ⟨am, aF, au⟩ := a
  cases aF with
  | nil => exact ⟨ha, hb⟩
  | cons f r => exact ⟨stp_inv f ha, hb⟩
theorem drainF_inv {T : Nat} : ∀ (n : Nat) (a b : MS), Inv T a → Inv T b → Inv T (drainF n a b).1 ∧ Inv T (drainF n a b).2
  | 0, a, b, ha, hb => ⟨ha, hb⟩
  | n + 1, a, b, ha, hb => by
    obtain ⟨h1, h2⟩ := comeM_inv ha hb
    obtain ⟨h3, h4⟩ := comeM_inv h2 h1
    exact drainF_inv n _ _ h4 h3
/-- What a state does when its timer is over. -/
def tmo : Md → Md × F4
  | .C t => (.C (t + 1), .S)
  | .O _ => (.R 0, .Q)
  | .R t => (.R (t + 1), .Q)
def tmr : Md → Int
  | .C _ => 200
  | .O _ => 203
  | .R _ => 200
theorem tmo_ok {T : Nat} {m : Md} {u : Nat} (h : InvM T m u) (hT : T ≤ 28) : ∃ outs, TimeOk (m.en 30) (tmr m) ((tmo m).1.en 30) outs ∧ (∀ x, x ∈ outs → Good x) ∧ outs.length ≤ 10 ∧ (∀ (E : EN) (F : List FrV) (nd u : Nat), outs.foldl effA ⟨E, F, nd, u⟩ = ⟨E, F, nd, u⟩ ∧ outs.foldl effB ⟨E, F, nd, u⟩ = ⟨E, F ++ [(tmo m).2.fr], nd, u⟩) := by
  cases m with
  | C t => exact ⟨_, to_C 30 t (by simp only [InvM] at h; omega), by simp [Good, xS, xSend, xTimer], by decide, fun E F nd u => by simp [effA, effB, xS, xSend, xTimer, tmo, F4.fr, fS, XE.fr]⟩
  | O t => exact ⟨_, to_O 30 t, by simp [Good, xQ, xSend, xTimer], by decide, fun E F nd u => by simp [effA, effB, xQ, xSend, xTimer, tmo, F4.fr, fQ, XE.fr]⟩
  | R t => exact ⟨_, to_R 30 t (by simp only [InvM] at h; omega), by simp [Good, xQ, xSend, xTimer], by decide, fun E F nd u => by simp [effA, effB, xQ, xSend, xTimer, tmo, F4.fr, fQ, XE.fr]⟩
theorem tmo_inv {T : Nat} {m : Md} {u : Nat} (h : InvM T m u) : InvM (T + 1) (tmo m).1 u := by
  cases m <;> simp only [InvM, tmo] at h ⊢ <;> omega
def isO : Md → Prop
  | .O _ => True
  | _ => False
theorem r0_of (N : Int) (m : Md) (h : isO m) : (m.en N).r0 = false := by
  cases m <;> simp [isO] at h <;> rfl
theorem r0_on (N : Int) (m : Md) (h : ¬ isO m) : (m.en N).r0 = true ∧ tmr m = 200 := by
  cases m <;> simp [isO] at h <;> exact ⟨rfl, rfl⟩
theorem half0 {T : Nat} {mx my : Md} {ux uy : Nat} (hx : InvM T mx ux) (hy : InvM T my uy) (hT : T ≤ 27) : ∃ mx' ux' my' uy', HalfR0 (MS.sg 30 ⟨mx, [], ux⟩) (MS.sg 30 ⟨my, [], uy⟩) (MS.sg 30 ⟨mx', [], ux'⟩) (MS.sg 30 ⟨my', [], uy'⟩) ∧ InvM (T + 1) mx' ux' ∧ InvM (T + 1) my' uy' ∧ (isO mx' ∨ ∃ t s, mx' = .R t ∧ my' = .C s) := by
  by_cases ho : isO mx
  · exact ⟨mx, ux, my, uy, HalfR0.skip (r0_of 30 mx ho), hx.more (Nat.le_succ T), hy.more (Nat.le_succ T), Or.inl ho⟩
  · obtain ⟨hr, ht⟩ := r0_on 30 mx ho
    obtain ⟨outs, h1, h2, h3, h4⟩ := tmo_ok hx (by omega)
    rw [ht] at h1
    obtain ⟨⟨e1, e2⟩, k, hk, hD⟩ := drainF_ok 30 2 ⟨(tmo mx).1, [], ux⟩ ⟨my, [(tmo mx).2], uy⟩ (by cases mx <;> simp [tmo, W, wt])
    have hD' : DrainR (stepA (MS.sg 30 ⟨mx, [], ux⟩) [] ((tmo mx).1.en 30) outs) (outs.foldl effB (MS.sg 30 ⟨my, [], uy⟩)) k ((drainF 2 ⟨(tmo mx).1, [], ux⟩ ⟨my, [(tmo mx).2], uy⟩).1.sg 30) ((drainF 2 ⟨(tmo mx).1, [], ux⟩ ⟨my, [(tmo mx).2], uy⟩).2.sg 30) := by
      have a1 : stepA (MS.sg 30 ⟨mx, [], ux⟩) [] ((tmo mx).1.en 30) outs = MS.sg 30 ⟨(tmo mx).1, [], ux⟩ := (h4 _ _ _ _).1
      have a2 : outs.foldl effB (MS.sg 30 ⟨my, [], uy⟩) = MS.sg 30 ⟨my, [(tmo mx).2], uy⟩ := (h4 _ _ _ _).2
      rw [a1, a2]
      exact hD
    have hg := HalfR0.go (x := MS.sg 30 ⟨mx, [], ux⟩) (y := MS.sg 30 ⟨my, [], uy⟩) rfl rfl hr h1 (fun u hu => (en_lv 30 _ u hu).elim) h2 h3 hD' (by omega)
    obtain ⟨i1, i2⟩ := drainF_inv (T := T + 1) 2 ⟨(tmo mx).1, [], ux⟩ ⟨my, [(tmo mx).2], uy⟩ (tmo_inv hx) (hy.more (Nat.le_succ T))
    have hfin : isO (drainF 2 ⟨(tmo mx).1, [], ux⟩ ⟨my, [(tmo mx).2], uy⟩).1.m ∨ ∃ t s, (drainF 2 ⟨(tmo mx).1, [], ux⟩ ⟨my, [(tmo mx).2], uy⟩).1.m = .R t ∧ (drainF 2 ⟨(tmo mx).1, [], ux⟩ ⟨my, [(tmo mx).2], uy⟩).2.m = .C s := by
      cases mx <;> cases my <;> first | exact (ho trivial).elim | exact Or.inl trivial | exact Or.inr ⟨_, _, rfl, rfl⟩
    generalize drainF 2 ⟨(tmo mx).1, [], ux⟩ ⟨my, [(tmo mx).2], uy⟩ = res at *
    obtain ⟨⟨mx', Fx, ux'⟩, ⟨my', Fy, uy'⟩⟩ := res
    dsimp only at e1 e2 i1 i2 hfin hg
    subst e1 e2
    exact ⟨mx', ux', my', uy', hg, i1, i2, hfin⟩
theorem half1 {T : Nat} {mx my : Md} {ux uy : Nat} (hx : InvM T mx ux) (hy : InvM T my uy) (hT : T ≤ 27) (hxy : isO mx ∨ ∃ t s, mx = .R t ∧ my = .C s) : ∃ mx' ux' my' uy', HalfR1 (MS.sg 30 ⟨mx, [], ux⟩) (MS.sg 30 ⟨my, [], uy⟩) (MS.sg 30 ⟨mx', [], ux'⟩) (MS.sg 30 ⟨my', [], uy'⟩) ∧ InvM (T + 1) mx' ux' ∧ InvM (T + 1) my' uy' ∧ isO mx' ∧ isO my' := by
  by_cases ho : isO my
  · rcases hxy with h | ⟨t, s, _, h⟩
    · exact ⟨mx, ux, my, uy, HalfR1.skip (r0_of 30 my ho), hx.more (Nat.le_succ T), hy.more (Nat.le_succ T), h, ho⟩
    · rw [h] at ho
      exact ho.elim
  · obtain ⟨hr, ht⟩ := r0_on 30 my ho
    obtain ⟨outs, h1, h2, h3, h4⟩ := tmo_ok hy (by omega)
    rw [ht] at h1
    obtain ⟨⟨e1, e2⟩, k, hk, hD⟩ := drainF_ok 30 2 ⟨mx, [(tmo my).2], ux⟩ ⟨(tmo my).1, [], uy⟩ (by cases my <;> simp [tmo, W, wt])
    have hD' : DrainR (outs.foldl effB (MS.sg 30 ⟨mx, [], ux⟩)) (stepA (MS.sg 30 ⟨my, [], uy⟩) [] ((tmo my).1.en 30) outs) k ((drainF 2 ⟨mx, [(tmo my).2], ux⟩ ⟨(tmo my).1, [], uy⟩).1.sg 30) ((drainF 2 ⟨mx, [(tmo my).2], ux⟩ ⟨(tmo my).1, [], uy⟩).2.sg 30) := by
      have a1 : stepA (MS.sg 30 ⟨my, [], uy⟩) [] ((tmo my).1.en 30) outs = MS.sg 30 ⟨(tmo my).1, [], uy⟩ := (h4 _ _ _ _).1
      have a2 : outs.foldl effB (MS.sg 30 ⟨mx, [], ux⟩) = MS.sg 30 ⟨mx, [(tmo my).2], ux⟩ := (h4 _ _ _ _).2
      rw [a1, a2]
      exact hD
    have hg := HalfR1.go (x := MS.sg 30 ⟨mx, [], ux⟩) (y := MS.sg 30 ⟨my, [], uy⟩) rfl rfl hr h1 (fun u hu => (en_lv 30 _ u hu).elim) h2 h3 hD' (by omega)
    obtain ⟨i1, i2⟩ := drainF_inv (T := T + 1) 2 ⟨mx, [(tmo my).2], ux⟩ ⟨(tmo my).1, [], uy⟩ (hx.more (Nat.le_succ T)) (tmo_inv hy)
    have hfin : isO (drainF 2 ⟨mx, [(tmo my).2], ux⟩ ⟨(tmo my).1, [], uy⟩).1.m ∧ isO (drainF 2 ⟨mx, [(tmo my).2], ux⟩ ⟨(tmo my).1, [], uy⟩).2.m := by
      rcases hxy with h | ⟨t, s, h, h'⟩
      · cases mx <;> cases my <;> first | exact (ho trivial).elim | exact h.elim | exact ⟨trivial, trivial⟩
      · subst h h'
        exact ⟨trivial, trivial⟩
    generalize drainF 2 ⟨mx, [(tmo my).2], ux⟩ ⟨(tmo my).1, [], uy⟩ = res at *
    obtain ⟨⟨mx', Fx, ux'⟩, ⟨my', Fy, uy'⟩⟩ := res
    dsimp only at e1 e2 i1 i2 hfin hg
    subst e1 e2
    exact ⟨mx', ux', my', uy', hg, i1, i2, hfin.1, hfin.2⟩
theorem rounds_O {mx my : Md} {ux uy : Nat} (hx : isO mx) (hy : isO my) : ∀ n, RoundsR (MS.sg 30 ⟨mx, [], ux⟩) (MS.sg 30 ⟨my, [], uy⟩) n (MS.sg 30 ⟨mx, [], ux⟩) (MS.sg 30 ⟨my, [], uy⟩)
  | 0 => RoundsR.nil
  | n + 1 => RoundsR.cons (DrainR.stop rfl rfl) (Nat.zero_le _) (HalfR0.skip (r0_of 30 mx hx)) (HalfR1.skip (r0_of 30 my hy)) (rounds_O hx hy n)
/-- Whatever was on its way: the link is made at both ends, and both were told. -/
theorem settle_law {T : Nat} {a b : MS} (ha : Inv T a) (hb : Inv T b) (hT : T ≤ 25) (hw : W a.F + W b.F ≤ 10) : ∃ t u s v, 1 ≤ u ∧ 1 ≤ v ∧ RoundsR (a.sg 30) (b.sg 30) 40 (MS.sg 30 ⟨.O t, [], u⟩) (MS.sg 30 ⟨.O s, [], v⟩) := by
  obtain ⟨⟨e1, e2⟩, k, hk, hD⟩ := drainF_ok 30 10 a b hw
  obtain ⟨i1, i2⟩ := drainF_inv 10 a b ha hb
  generalize drainF 10 a b = res at *
  obtain ⟨⟨mx, Fx, ux⟩, ⟨my, Fy, uy⟩⟩ := res
  dsimp only at e1 e2
  subst e1 e2
  obtain ⟨mx1, ux1, my1, uy1, hh0, j1, j2, j3⟩ := half0 i1 i2 (by omega)
  obtain ⟨mx2, ux2, my2, uy2, hh1, k1, k2, k3, k4⟩ := half1 j1 j2 (by omega) j3
  cases mx2 with
  | O t =>
    cases my2 with
    | O s => exact ⟨t, ux2, s, uy2, k1.2, k2.2, RoundsR.cons hD (by omega) hh0 hh1 (rounds_O k3 k4 39)⟩
    | C s => exact k4.elim
    | R s => exact k4.elim
  | C t => exact k3.elim
  | R t => exact k3.elim
end Go.Proofs.YtlfcfmdblmedcaaGreatDoor.Mine
/- A step of the two ends, as the law tells it: the next frame comes, or is lost; with nothing on its way a timer is over (written by wip/prk.py). -/
namespace Go.Proofs.YtlfcfmdblmedcaaGreatDoor.Mine
open Go.RowKit Go.Maps Go.Proofs.YtlfcfmdblmedcaaGreatDoorW.PrintWords
def comeL (L : Bool) (a b : MS) : Bool × MS × MS :=
  match a.F with
  | [] => (false, a, b)
  | _ :: r => if L then (true, { a with F := r }, b) else comeM a b
def overM (a b : MS) : MS × MS :=
  match b.F with
  | [] => (⟨(tmo a.m).1, [], a.u⟩, ⟨b.m, [(tmo a.m).2], b.u⟩)
  | _ :: _ => (a, b)
theorem comeL_inv {T : Nat} {a b : MS} (L : Bool) (ha : Inv T a) (hb : Inv T b) : Inv T (comeL L a b).2.1 ∧ Inv T (comeL L a b).2.2 := by
  obtain ⟨am, aF, au⟩ := a
  cases aF with
  | nil => exact ⟨ha, hb⟩
  | cons f r =>
    cases L with
    | false => exact comeM_inv (a := ⟨am, f :: r, au⟩) ha hb
    | true => exact ⟨ha, hb⟩
theorem comeL_wt (L : Bool) (a b : MS) : W (comeL L a b).2.1.F + W (comeL L a b).2.2.F ≤ W a.F + W b.F := by
  obtain ⟨am, aF, au⟩ := a
  cases aF with
  | nil => exact Nat.le_refl _
  | cons f r =>
    cases L with
    | false => exact comeM_wt ⟨am, f :: r, au⟩ b
    | true =>
      show W r + W b.F ≤ W (f :: r) + W b.F
      simp only [W]
      omega
theorem comeL_no (L : Bool) (a b : MS) (h : (comeL L a b).1 = false) : a.F = [] ∧ comeL L a b = (false, a, b) := by
  obtain ⟨am, aF, au⟩ := a
  cases aF with
  | nil => exact ⟨rfl, rfl⟩
  | cons f r => cases L <;> cases h
theorem overM_inv {T : Nat} {a b : MS} (ha : Inv T a) (hb : Inv T b) : Inv (T + 1) (overM a b).1 ∧ Inv (T + 1) (overM a b).2 := by
  obtain ⟨bm, bF, bu⟩ := b
  cases bF with
  | nil => exact ⟨tmo_inv ha, InvM.more hb (Nat.le_succ T)⟩
  | cons f r => exact ⟨InvM.more ha (Nat.le_succ T), InvM.more hb (Nat.le_succ T)⟩
theorem overM_wt (a b : MS) (ha : a.F = []) (h : W b.F ≤ 4) : W (overM a b).1.F + W (overM a b).2.F ≤ 4 := by
  obtain ⟨bm, bF, bu⟩ := b
  cases bF with
  | nil =>
    cases hm : a.m <;> simp [overM, hm, tmo, W, wt]
  | cons f r =>
    show W a.F + W (f :: r) ≤ 4
    rw [ha]
    simp only [W] at h ⊢
    omega
theorem comeL_0 {W0 : World} {X : List (Nat × Array Value)} {p : Nat} {a b : MS} {c : Nat} {nx : Int} (L : Bool) (w : World) (HT : Tabs W0) (h : PairAt W0.heap.size W0 X p false (a.sg 30) (b.sg 30) c nx w) (hc : c ≤ 900000000) :
    Calls Tryz.prog 7 #[.pointer (some ⟨p, 0, none⟩), .int .i64 0, .bool L] w fun en w' => en = .returned (.bool (comeL L a b).1) ∧ PairAt W0.heap.size W0 X p false ((comeL L a b).2.1.sg 30) ((comeL L a b).2.2.sg 30) (c + 30) nx w' := by
  obtain ⟨am, aF, au⟩ := a
  cases aF with
  | nil =>
    refine (comeNone_0 L w h rfl).mono ?_
    rintro en w' ⟨rfl, rfl⟩
    exact ⟨rfl, h.more (by omega)⟩
  | cons f r =>
    cases L with
    | false =>
      obtain ⟨outs, h1, h2, h3, h4⟩ := stp_ok 30 am f
      refine (come_0 w h HT rfl h1 (fun x hx => (en_lv 30 _ x hx).elim) h2 h3 hc).mono ?_
      rintro en w' ⟨rfl, h5⟩
      refine ⟨rfl, ?_⟩
      have e1 : stepA (MS.sg 30 ⟨am, f :: r, au⟩) (r.map F4.fr) ((stp am f).1.en 30) outs = (comeM ⟨am, f :: r, au⟩ b).2.1.sg 30 := (h4 _ _ _ _).1
      have e2 : outs.foldl effB (b.sg 30) = (comeM ⟨am, f :: r, au⟩ b).2.2.sg 30 := by
        refine (h4 _ _ _ _).2.trans ?_
        simp [MS.sg, comeM]
      show PairAt _ _ _ _ _ ((comeM ⟨am, f :: r, au⟩ b).2.1.sg 30) ((comeM ⟨am, f :: r, au⟩ b).2.2.sg 30) _ _ _
      rw [← e1, ← e2]
      exact h5
    | true =>
      refine (comeLost_0 w h rfl (by omega)).mono ?_
      rintro en w' ⟨rfl, h5⟩
      exact ⟨rfl, h5.more (by omega)⟩
theorem overM_0 {W0 : World} {X : List (Nat × Array Value)} {p : Nat} {a b : MS} {c : Nat} {nx : Int} {T : Nat} (w : World) (h : PairAt W0.heap.size W0 X p false (a.sg 30) (b.sg 30) c nx w) (ha : a.F = []) (hi : Inv T a) (hT : T ≤ 25) (hc : c ≤ 900000000) :
    Calls Tryz.prog 8 #[.pointer (some ⟨p, 0, none⟩), .int .i64 0] w fun en w' => en = .returned (.tuple #[]) ∧ PairAt W0.heap.size W0 X p false ((overM a b).1.sg 30) ((overM a b).2.sg 30) (c + 30) nx w' := by
  obtain ⟨bm, bF, bu⟩ := b
  obtain ⟨am, aF, au⟩ := a
  dsimp only at ha
  subst ha
  cases bF with
  | cons f r =>
    refine (overNot_0 w h (by simp [MS.sg]) hc).mono ?_
    rintro en w' ⟨rfl, h5⟩
    exact ⟨rfl, h5.more (by omega)⟩
  | nil =>
    obtain ⟨outs, h1, h2, h3, h4⟩ := tmo_ok hi (by omega)
    have fin : ∀ (en : Ending) (w' : World), (en = .returned (.tuple #[]) ∧ PairAt W0.heap.size W0 X p false (stepA (MS.sg 30 ⟨am, [], au⟩) [] ((tmo am).1.en 30) outs) (outs.foldl effB (MS.sg 30 ⟨bm, [], bu⟩)) (c + 30) nx w') → (en = .returned (.tuple #[]) ∧ PairAt W0.heap.size W0 X p false ((overM ⟨am, [], au⟩ ⟨bm, [], bu⟩).1.sg 30) ((overM ⟨am, [], au⟩ ⟨bm, [], bu⟩).2.sg 30) (c + 30) nx w') := by
      rintro en w' ⟨rfl, h5⟩
      have e1 : stepA (MS.sg 30 ⟨am, [], au⟩) [] ((tmo am).1.en 30) outs = (overM ⟨am, [], au⟩ ⟨bm, [], bu⟩).1.sg 30 := (h4 _ _ _ _).1
      have e2 : outs.foldl effB (MS.sg 30 ⟨bm, [], bu⟩) = (overM ⟨am, [], au⟩ ⟨bm, [], bu⟩).2.sg 30 := (h4 _ _ _ _).2
      rw [e1, e2] at h5
      exact ⟨rfl, h5⟩
    by_cases ho : isO am
    · have ht : tmr am = 203 := by cases am <;> simp [isO] at ho <;> rfl
      have hr : (am.en 30).r0 = false ∧ (am.en 30).r3 = true := by cases am <;> simp [isO] at ho <;> exact ⟨rfl, rfl⟩
      rw [ht] at h1
      exact (over203_0 w h rfl rfl hr h1 (fun x hx => (en_lv 30 _ x hx).elim) h2 h3 hc).mono (fun en w' h => fin en w' h)
    · obtain ⟨hr, ht⟩ := r0_on 30 am ho
      rw [ht] at h1
      exact (over200_0 w h rfl rfl hr h1 (fun x hx => (en_lv 30 _ x hx).elim) h2 h3 hc).mono (fun en w' h => fin en w' h)
theorem comeL_1 {W0 : World} {X : List (Nat × Array Value)} {p : Nat} {a b : MS} {c : Nat} {nx : Int} (L : Bool) (w : World) (HT : Tabs W0) (h : PairAt W0.heap.size W0 X p true (a.sg 30) (b.sg 30) c nx w) (hc : c ≤ 900000000) :
    Calls Tryz.prog 7 #[.pointer (some ⟨p, 0, none⟩), .int .i64 1, .bool L] w fun en w' => en = .returned (.bool (comeL L a b).1) ∧ PairAt W0.heap.size W0 X p true ((comeL L a b).2.1.sg 30) ((comeL L a b).2.2.sg 30) (c + 30) nx w' := by
  obtain ⟨am, aF, au⟩ := a
  cases aF with
  | nil =>
    refine (comeNone_1 L w h rfl).mono ?_
    rintro en w' ⟨rfl, rfl⟩
    exact ⟨rfl, h.more (by omega)⟩
  | cons f r =>
    cases L with
    | false =>
      obtain ⟨outs, h1, h2, h3, h4⟩ := stp_ok 30 am f
      refine (come_1 w h HT rfl h1 (fun x hx => (en_lv 30 _ x hx).elim) h2 h3 hc).mono ?_
      rintro en w' ⟨rfl, h5⟩
      refine ⟨rfl, ?_⟩
      have e1 : stepA (MS.sg 30 ⟨am, f :: r, au⟩) (r.map F4.fr) ((stp am f).1.en 30) outs = (comeM ⟨am, f :: r, au⟩ b).2.1.sg 30 := (h4 _ _ _ _).1
      have e2 : outs.foldl effB (b.sg 30) = (comeM ⟨am, f :: r, au⟩ b).2.2.sg 30 := by
        refine (h4 _ _ _ _).2.trans ?_
        simp [MS.sg, comeM]
      show PairAt _ _ _ _ _ ((comeM ⟨am, f :: r, au⟩ b).2.1.sg 30) ((comeM ⟨am, f :: r, au⟩ b).2.2.sg 30) _ _ _
      rw [← e1, ← e2]
      exact h5
    | true =>
      refine (comeLost_1 w h rfl (by omega)).mono ?_
      rintro en w' ⟨rfl, h5⟩
      exact ⟨rfl, h5.more (by omega)⟩
theorem overM_1 {W0 : World} {X : List (Nat × Array Value)} {p : Nat} {a b : MS} {c : Nat} {nx : Int} {T : Nat} (w : World) (h : PairAt W0.heap.size W0 X p true (a.sg 30) (b.sg 30) c nx w) (ha : a.F = []) (hi : Inv T a) (hT : T ≤ 25) (hc : c ≤ 900000000) :
    Calls Tryz.prog 8 #[.pointer (some ⟨p, 0, none⟩), .int .i64 1] w fun en w' => en = .returned (.tuple #[]) ∧ PairAt W0.heap.size W0 X p true ((overM a b).1.sg 30) ((overM a b).2.sg 30) (c + 30) nx w' := by
  obtain ⟨bm, bF, bu⟩ := b
  obtain ⟨am, aF, au⟩ := a
  dsimp only at ha
  subst ha
  cases bF with
  | cons f r =>
    refine (overNot_1 w h (by simp [MS.sg]) hc).mono ?_
    rintro en w' ⟨rfl, h5⟩
    exact ⟨rfl, h5.more (by omega)⟩
  | nil =>
    obtain ⟨outs, h1, h2, h3, h4⟩ := tmo_ok hi (by omega)
    have fin : ∀ (en : Ending) (w' : World), (en = .returned (.tuple #[]) ∧ PairAt W0.heap.size W0 X p true (stepA (MS.sg 30 ⟨am, [], au⟩) [] ((tmo am).1.en 30) outs) (outs.foldl effB (MS.sg 30 ⟨bm, [], bu⟩)) (c + 30) nx w') → (en = .returned (.tuple #[]) ∧ PairAt W0.heap.size W0 X p true ((overM ⟨am, [], au⟩ ⟨bm, [], bu⟩).1.sg 30) ((overM ⟨am, [], au⟩ ⟨bm, [], bu⟩).2.sg 30) (c + 30) nx w') := by
      rintro en w' ⟨rfl, h5⟩
      have e1 : stepA (MS.sg 30 ⟨am, [], au⟩) [] ((tmo am).1.en 30) outs = (overM ⟨am, [], au⟩ ⟨bm, [], bu⟩).1.sg 30 := (h4 _ _ _ _).1
      have e2 : outs.foldl effB (MS.sg 30 ⟨bm, [], bu⟩) = (overM ⟨am, [], au⟩ ⟨bm, [], bu⟩).2.sg 30 := (h4 _ _ _ _).2
      rw [e1, e2] at h5
      exact ⟨rfl, h5⟩
    by_cases ho : isO am
    · have ht : tmr am = 203 := by cases am <;> simp [isO] at ho <;> rfl
      have hr : (am.en 30).r0 = false ∧ (am.en 30).r3 = true := by cases am <;> simp [isO] at ho <;> exact ⟨rfl, rfl⟩
      rw [ht] at h1
      exact (over203_1 w h rfl rfl hr h1 (fun x hx => (en_lv 30 _ x hx).elim) h2 h3 hc).mono (fun en w' h => fin en w' h)
    · obtain ⟨hr, ht⟩ := r0_on 30 am ho
      rw [ht] at h1
      exact (over200_1 w h rfl rfl hr h1 (fun x hx => (en_lv 30 _ x hx).elim) h2 h3 hc).mono (fun en w' h => fin en w' h)
end Go.Proofs.YtlfcfmdblmedcaaGreatDoor.Mine
