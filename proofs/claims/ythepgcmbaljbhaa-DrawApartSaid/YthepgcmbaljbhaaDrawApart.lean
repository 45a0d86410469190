/- DrawApart: the walk of the law, for every seed, every list that a slice reads as, and every number. -/
import Derived.Test.YthepgcmbaljbhaaDrawWakes
import Derived.Test.YthepgcmbaljbhaaXor
namespace Go.Proofs.Ythepgcmbaljbhaa.Mine
open Go.RowKit Go.Proofs.YthepgcmbaljbhaaW.PrintWords

/-- A number with its lowest bit turned. -/
def fb (x : Int) : Int := bits .xor .i64 x 1
theorem fb_ne (x : Int) : x % 65536 ≠ fb x % 65536 := by
  have := xor1_parity x
  unfold fb
  omega
/-- A list whose first k numbers are turned. -/
def fl : Nat → List Int → List Int
  | 0, L => L
  | _ + 1, [] => []
  | k + 1, x :: L => fb x :: fl k L
theorem fl_length : ∀ (k : Nat) (L : List Int), (fl k L).length = L.length
  | 0, _ => rfl
  | _ + 1, [] => rfl
  | k + 1, x :: L => by simp [fl, fl_length k L]
theorem fl_at : ∀ (k : Nat) (L : List Int), (fl k L).getD k 0 = L.getD k 0
  | 0, _ => rfl
  | _ + 1, [] => rfl
  | k + 1, x :: L => by simpa [fl] using fl_at k L
theorem fl_set : ∀ (k : Nat) (L : List Int), k < L.length → (fl k L).set k (fb (L.getD k 0)) = fl (k + 1) L
  | 0, [], h => by simp at h
  | 0, x :: L, _ => by simp [fl]
  | k + 1, [], h => by simp at h
  | k + 1, x :: L, h => by
    have := fl_set k L (by simpa using h)
    simpa [fl] using this
theorem fl_all : ∀ (L : List Int), fl L.length L = L.map fb
  | [] => rfl
  | x :: L => by simp [fl, fl_all L]

/-- A list lies from the head of block v on; of the empty one nothing is said. -/
def Lie (w : World) (A : Option Addr) (v : Nat) (xs : List Int) : Prop := xs = [] ∨ A = some ⟨v, 0, none⟩ ∧ Row w v 0 xs
theorem Lie.keep {w w' : World} {A : Option Addr} {v : Nat} {xs : List Int} {S : List Nat} (h : Lie w A v xs) (k : Only S w w') (hv : v ∉ S) : Lie w' A v xs :=
  h.imp id (fun ⟨hA, hr⟩ => ⟨hA, hr.keep (fun hl => k.block v hl hv)⟩)
theorem Lie.reads {w : World} {A : Option Addr} {v : Nat} {xs : List Int} (h : Lie w A v xs) (hl : xs.length ≤ 1000) : ReadsInt w .i64 A xs.length xs := by
  refine ⟨rfl, by omega, fun hp => ?_⟩
  rcases h with rfl | ⟨rfl, hr⟩
  · simp at hp
  · refine ⟨_, rfl, fun j hj => ?_⟩
    rw [add_plain]
    have := hr j hj
    simpa using this
theorem Lie.of_own {w : World} {base c : Nat} {A : Option Addr} {xs : List Int} (h : w.ownsRow base 3 1 (.slice A xs.length c) xs.length (nums .i64 xs)) : ∃ v, Lie w A v xs ∧ (xs = [] ∨ base ≤ v ∧ v < w.heap.size) := by
  obtain ⟨A2, c2, hv, _, hx⟩ := Row.of_own h
  injection hv with hv1 _ hv3
  subst hv1 hv3
  rcases hx with hx | ⟨r, rfl, hr, hr2, hrow⟩
  · exact ⟨0, Or.inl hx, Or.inl hx⟩
  · exact ⟨r, Or.inr ⟨rfl, hrow⟩, Or.inr ⟨hr, hr2⟩⟩

def FlipInv (w : World) (g r g2 r2 : Nat) (L : List Int) (seed : Int) (A : Option Addr) (c : Nat) (i : Value) (wr : World) : Prop :=
  ∃ k : Nat, i = .int .i64 k ∧ k ≤ L.length ∧ wr.ownsRow w.heap.size 3 1 (.slice A L.length c) L.length (nums .i64 (fl k L)) ∧ Src wr g r L seed ∧ Src wr g2 r2 L seed ∧ Below w.heap.size w wr
def GoInv (w : World) (g r g2 r2 v : Nat) (L M : List Int) (seed : Int) (A : Option Addr) (N : Nat) (i : Value) (wr : World) : Prop :=
  ∃ (k : Nat) (p : List Int × Int), i = .int .i64 k ∧ k ≤ N ∧ Lie wr A v M ∧ Src wr g r L seed ∧ Src wr g2 r2 p.1 p.2 ∧ Below w.heap.size w wr
def PairInv (w : World) (g r g2 r2 : Nat) (L M : List Int) (N : Nat) (i : Value) (wr : World) : Prop :=
  ∃ (k : Nat) (st : Int), i = .int .i64 k ∧ k ≤ N ∧ Src wr g r (L.drop k) st ∧ Src wr g2 r2 (M.drop k) st ∧ Below w.heap.size w wr

attribute [local go_sem] max_int min_int max_of_two min_of_two
set_option maxHeartbeats 2000000 in
set_option maxRecDepth 100000 in
theorem apart_any {A : Option Addr} {n c : Nat} {xs : List Int} (seed m : Int) (w : World) (hR : ReadsInt w .i64 A n xs) (hc : n ≤ c) (hn : n * 8 ≤ 140737488351232) :
    Calls Try.prog 4 #[.int .u64 seed, .slice A n c, .int .i64 m] w fun e w' => e = .returned (.bool true) ∧ Below w.heap.size w w' := by
  obtain ⟨q, hq, hqn, hq50⟩ := cut_at n 50 (by decide)
  obtain ⟨p, N, hp, hp0, hN, hN3, -⟩ := rounds_of m 100 (by decide)
  have hq5 : q ≤ 50 := by omega
  clear hq50
  have hqc : q ≤ c := by omega
  have hT := Lib.hid (hR.take_ q hqn)
  clear hR
  obtain ⟨L, hL⟩ : ∃ L, List.take q xs = L := ⟨_, rfl⟩
  rw [hL] at hT
  have hLq : L.length = q := by have := hT.out.1; exact this
  clear hL
  subst hLq
  have HN := Lib.hid hN
  have HP := Lib.hid hp
  clear hN hp
  go_enter Try.func4, Try.ntmps4
  go_wp2_with (at_builtin; refine print_append_row (w0 := w) w.heap.size rfl _ _ 23 3 .i64 8 rfl Try.underlying23 infoInt (by decide) _ [] L A L.length c rfl rfl ?c1 ?c2 ?c3 ?c4 ?c5 ?c6)
  case c1 => exact own_nil _ _ _ _
  case c2 => exact hT.out
  case c3 => exact Below.refl _ _
  case c4 => exact Nat.le_refl _
  case c5 => simp; omega
  case c6 =>
    intro v1 w1 hown hb1 _ _
    have hown0 : w1.ownsRow w.heap.size 3 1 v1 L.length (nums .i64 L) := by simpa using hown
    clear hown
    obtain ⟨A1, c1, rfl⟩ := own_slice hown0
    have hA1 : (Value.slice A1 L.length c1).ownBlock = none ∨ ∃ b, (Value.slice A1 L.length c1).ownBlock = some b ∧ b < w1.heap.size := by
      rcases h : (Value.slice A1 L.length c1).ownBlock with _ | b
      · exact Or.inl rfl
      · exact Or.inr ⟨b, rfl, own_lt hown0 b h⟩
    have HA1 := Lib.hid hA1
    clear hA1 hq
    have hrd := own_reads' hown0
    have HO := Lib.hid hown0
    clear hown0
    go_wp2_with fail
    refine (drawNew_any seed _ hrd (by omega)).mono ?_
    rintro e w2 ⟨g, r, rfl, hg, hr, hr2, hS, hb2⟩
    have hrd2 := hrd.below hb2
    go_wp2_with fail
    refine (drawNew_any seed _ hrd2 (by omega)).mono ?_
    rintro e w3 ⟨g2, r2, rfl, hg2, hr3, hr4, hQ, hb3⟩
    clear hrd hrd2
    have B3 : Below w.heap.size w w3 := (hb1.trans (hb2.mono hb1.size)).trans (hb3.mono (Nat.le_trans hb1.size hb2.size))
    have hS3 := hS.keep (Only.of_below hb3 []) (by simp) (by simp)
    have O3 := Lib.hid (pw_own_below (pw_own_below HO.out hb2) hb3)
    have s12 := hb2.size
    have s23 := hb3.size
    have s01 := hb1.size
    have hgl := hS.lt
    have hgl2 := hQ.lt
    clear hS hb1 hb2 hb3 HO
    go_wp2_with fail
    go_loopw [29] (fun i wr => FlipInv w g r g2 r2 L seed A1 c1 i wr) (fun i _ => L.length - (intOf i).toNat)
    case atStart => exact ⟨0, rfl, Nat.zero_le _, O3.out, hS3, hQ, B3⟩
    case round =>
      obtain ⟨k, rfl, hk, hO, hS, hQ1, hb⟩ := hrel
      by_cases hlt : k < L.length
      · obtain ⟨v, cap, hv, hvb, hvl⟩ := hO.form (by omega)
        injection hv with hv1 _ hv3
        subst hv1 hv3
        have hvw : v < w1.heap.size := by
          rcases HA1.out with h | ⟨b, h, hb'⟩
          · simp [Value.ownBlock] at h
          · simp [Value.ownBlock] at h; omega
        obtain ⟨c0, f0⟩ := own_at hO (k : Int) (by omega) (by omega)
        obtain ⟨x, hx⟩ : ∃ x, L.getD k 0 = x := ⟨_, rfl⟩
        have hrdx : rd (fl k L) (k : Int) = x := by unfold rd; rw [Int.toNat_natCast, fl_at]; exact hx
        rw [hrdx] at c0
        rw [Int.toNat_natCast] at c0 f0
        have hst := (own_store hO (k : Int) (fb x)).1
        rw [Int.toNat_natCast, ← hx, fl_set k L hlt, hx] at hst
        have hSn := hS.keep ((Only.refl [v] wr).setCell (p := ⟨v, k, none⟩) (Or.inl (by simp)) (.int .i64 (fb x))) (by simp; omega) (by simp; omega)
        have hQn := hQ1.keep ((Only.refl [v] wr).setCell (p := ⟨v, k, none⟩) (Or.inl (by simp)) (.int .i64 (fb x))) (by simp; omega) (by simp; omega)
        have hbn := hb.setCell (p := ⟨v, k, none⟩) hvb (.int .i64 (fb x))
        have hI : FlipInv w g r g2 r2 L seed (some ⟨v, 0, none⟩) c1 (.int .i64 ((k : Int) + 1)) (wr.setCell ⟨v, k, none⟩ (.int .i64 (bits .xor .i64 x 1))) := ⟨k + 1, by go_num, by omega, hst, hSn, hQn, hbn⟩
        clear hst hSn hQn hbn hS hQ1 hb hO hx hrdx
        go_wp2
        go_roundw
        case rel => exact hI
        case measure => simp [intOf]; omega
      · obtain rfl : k = L.length := by omega
        rw [fl_all] at hO
        have hml : (L.map fb).length = L.length := by simp
        have hlie : ∃ v, Lie wr A1 v (L.map fb) ∧ (L.map fb = [] ∨ v < w1.heap.size) := by
          rw [← hml] at hO
          obtain ⟨v, h1, h2⟩ := Lie.of_own hO
          refine ⟨v, h1, ?_⟩
          rcases h2 with h2 | ⟨h2, h3⟩
          · exact Or.inl h2
          · rcases h1 with h1 | ⟨h1, _⟩
            · exact Or.inl h1
            · right
              rcases HA1.out with h | ⟨b, h, hb'⟩
              · subst h1; simp [Value.ownBlock] at h
              · subst h1; simp [Value.ownBlock] at h; omega
        obtain ⟨v0, hl0, hl1⟩ := hlie
        obtain ⟨v, hl, hvl⟩ : ∃ v, Lie wr A1 v (L.map fb) ∧ v ≠ g2 := by
          rcases hl1 with h | h
          · exact ⟨g2 + 1, Or.inl h, by omega⟩
          · exact ⟨v0, hl0, by omega⟩
        obtain ⟨M, hM⟩ : ∃ M, L.map fb = M := ⟨_, rfl⟩
        rw [hM] at hl hml
        have HM := Lib.hid hM
        clear hlt hl0 hl1 hO hk hM
        have hml' := Lib.hid hml
        clear hml
        have n1 : g ∉ [g2] := by simp; omega
        have n2 : r ∉ [g2] := by simp; omega
        have n3 : v ∉ [g2] := by simpa using hvl
        have hN := HN.out
        have hp := HP.out
        go_wp2_with fail
        rw [hN]
        clear hN hp hp0
        go_loopw [42] (fun i wr => GoInv w g r g2 r2 v L M seed A1 N i wr) (fun i _ => N - (intOf i).toNat)
        case atStart => exact ⟨0, (L, seed), rfl, Nat.zero_le _, hl, hS, hQ1, hb⟩
        case round =>
          clear hS hQ1 hb hl
          obtain ⟨j, pr, rfl, hj, hl, hS, hQ1, hb⟩ := hrel
          by_cases hjt : j < N
          · go_wp2_with fail
            refine (next_any _ hQ1).mono ?_
            rintro e w4 ⟨rfl, hQ4, hO4⟩
            have hS4 := hS.keep hO4 n1 n2
            have hl4 := hl.keep hO4 n3
            have B4 := hb.trans (hO4.below hb.size (by simp; omega))
            have hI : GoInv w g r g2 r2 v L M seed A1 N (.int .i64 ((j : Int) + 1)) w4 := ⟨j + 1, (nxt pr).2, by go_num, by omega, hl4, hS4, hQ4, B4⟩
            clear hQ4 hO4 hS4 hl4 B4 hl hS hQ1 hb
            go_wp2
            go_roundw
            case rel => exact hI
            case measure => simp [intOf]; omega
          · have hrd := hl.reads (by rw [hml'.out]; omega)
            rw [hml'.out] at hrd
            go_wp2_with fail
            refine (drawNew_any seed _ hrd (by omega)).mono ?_
            rintro e w5 ⟨g3, r3, rfl, hg3, hr5, hr6, hP, hb5⟩
            have hS5 := hS.keep (Only.of_below hb5 []) (by simp) (by simp)
            have B5 := hb.trans (hb5.mono hb.size)
            have hgw := hS.lt
            have m1 : g ∉ [g3] := by simp; omega
            have m2 : r ∉ [g3] := by simp; have := hQ1.lt; omega
            have m3 : g3 ∉ [g] := by simp; omega
            have m4 : r3 ∉ [g] := by simp; omega
            have m5 : w.heap.size ≤ g3 := by have := hb.size; omega
            clear hl hS hQ1 hb hrd hb5
            have hN := HN.out
            have hp := HP.out
            go_wp2_with fail
            rw [hN]
            clear hN hp
            go_loopw [53] (fun i wr => PairInv w g r g3 r3 L M N i wr) (fun i _ => N - (intOf i).toNat)
            case atStart => exact ⟨0, seed, rfl, Nat.zero_le _, hS5, hP, B5⟩
            case round =>
              clear hS5 hP B5
              obtain ⟨i, st, rfl, hi, hS, hP, hb⟩ := hrel
              by_cases hit : i < N
              · by_cases hil : i < L.length
                · obtain ⟨x, ys, hy⟩ : ∃ x ys, L.drop i = x :: ys := ⟨_, _, List.drop_eq_getElem_cons hil⟩
                  have hy1 : L.drop (i + 1) = ys := by
                    have h1 : List.drop 1 (List.drop i L) = ys := by rw [hy]; rfl
                    rwa [List.drop_drop] at h1
                  have hy2 : M.drop i = fb x :: ys.map fb := by rw [← HM.out, ← List.map_drop, hy]; rfl
                  have hy3 : ys.map fb = M.drop (i + 1) := by rw [← HM.out, ← List.map_drop, hy1]
                  rw [hy] at hS
                  rw [hy2] at hP
                  have z0 : 0 ≤ x % 65536 := by omega
                  have z1 : x % 65536 ≤ 65535 := by omega
                  have z2 : (x % 65536 == fb x % 65536) = false := by simpa using fb_ne x
                  have z3 : (x % 65536 != fb x % 65536) = true := by simpa using fb_ne x
                  go_wp2_with fail
                  refine (next_cons _ hS).mono ?_
                  rintro e w6 ⟨rfl, hS6, hO6⟩
                  have hP6 := hP.keep hO6 m3 m4
                  have B6 := hb.trans (hO6.below hb.size (by simp; omega))
                  go_wp2_with fail
                  refine (next_cons _ hP6).mono ?_
                  rintro e w7 ⟨rfl, hP7, hO7⟩
                  have hS7 := hS6.keep hO7 m1 m2
                  have B7 := B6.trans (hO7.below B6.size (by simpa using m5))
                  rw [← hy1] at hS7
                  rw [hy3] at hP7
                  have hI : PairInv w g r g3 r3 L M N (.int .i64 ((i : Int) + 1)) w7 := ⟨i + 1, st, by go_num, by omega, hS7, hP7, B7⟩
                  clear hS hP hb hS6 hO6 hP6 B6 hP7 hO7 hS7 B7 hy hy1 hy2 hy3
                  go_wp2
                  go_roundw
                  case rel => exact hI
                  case measure => simp [intOf]; omega
                · have hd1 : L.drop i = [] := List.drop_eq_nil_of_le (by omega)
                  have hd2 : M.drop i = [] := List.drop_eq_nil_of_le (by rw [hml'.out]; omega)
                  have hd3 : L.drop (i + 1) = [] := List.drop_eq_nil_of_le (by omega)
                  have hd4 : M.drop (i + 1) = [] := List.drop_eq_nil_of_le (by rw [hml'.out]; omega)
                  rw [hd1] at hS
                  rw [hd2] at hP
                  have z0 := lcg_range st
                  have z1 : 0 ≤ lcg st / 281474976710656 := by omega
                  have z2 : lcg st / 281474976710656 ≤ 65535 := by omega
                  clear z0
                  go_wp2_with fail
                  refine (next_nil _ hS).mono ?_
                  rintro e w6 ⟨rfl, hS6, hO6⟩
                  have hP6 := hP.keep hO6 m3 m4
                  have B6 := hb.trans (hO6.below hb.size (by simp; omega))
                  go_wp2_with fail
                  refine (next_nil _ hP6).mono ?_
                  rintro e w7 ⟨rfl, hP7, hO7⟩
                  have hS7 := hS6.keep hO7 m1 m2
                  have B7 := B6.trans (hO7.below B6.size (by simpa using m5))
                  rw [← hd3] at hS7
                  rw [← hd4] at hP7
                  have hI : PairInv w g r g3 r3 L M N (.int .i64 ((i : Int) + 1)) w7 := ⟨i + 1, lcg st, by go_num, by omega, hS7, hP7, B7⟩
                  clear hS hP hb hS6 hO6 hP6 B6 hP7 hO7 hS7 B7 hd1 hd2 hd3 hd4
                  go_wp2
                  go_roundw
                  case rel => exact hI
                  case measure => simp [intOf]; omega
              · go_wp2_with fail
                refine (dwakes_any _).mono ?_
                rintro e w6 ⟨rfl, hb6⟩
                have B6 := hb.trans (hb6.mono hb.size)
                clear hS hP hb hb6
                go_wp2_with fail
                refine (next_none _).mono ?_
                rintro e w7 ⟨rfl, rfl⟩
                go_wp2_with fail
                refine (left_none _).mono ?_
                rintro e w7 ⟨rfl, rfl⟩
                go_wp2
                go_ret
                exact ⟨rfl, B6⟩
end Go.Proofs.Ythepgcmbaljbhaa.Mine
