/- DrawPlays: the walk of the law, for every seed, every list that a slice reads as, and every number. -/
import Derived.Test.YthepgcmbaljbhaaDrawWakes
import Derived.Test.YthepgcmbaljbhaaRefDraw
namespace Go.Proofs.Ythepgcmbaljbhaa.Mine
open Go.RowKit Go.Proofs.YthepgcmbaljbhaaW.PrintWords

def PlaysInv (w : World) (g r g2 r2 : Nat) (L : List Int) (N : Nat) (i : Value) (wr : World) : Prop :=
  ∃ (k a : Nat) (st : Int), i = .int .i64 k ∧ k ≤ N ∧ a ≤ L.length ∧ Src wr g r (L.drop a) st ∧ RSrc wr g2 r2 (m16 L) a st ∧ Below w.heap.size w wr

attribute [local go_sem] max_int min_int max_of_two min_of_two
set_option maxHeartbeats 1000000 in
set_option maxRecDepth 100000 in
theorem plays_any {A : Option Addr} {n c : Nat} {xs : List Int} (seed m : Int) (w : World) (hR : ReadsInt w .i64 A n xs) (hc : n ≤ c) (hn : n * 8 ≤ 140737488351232) :
    Calls Try.prog 3 #[.int .u64 seed, .slice A n c, .int .i64 m] w fun e w' => e = .returned (.bool true) ∧ Below w.heap.size w w' := by
  obtain ⟨q, hq, hqn, -⟩ := cut_at n 100 (by decide)
  obtain ⟨p, N, hp, hp0, hN, hN3, -⟩ := rounds_of m 300 (by decide)
  have hqc : q ≤ c := by omega
  have hT := Lib.hid (hR.take_ q hqn)
  clear hR
  go_enter Try.func3, Try.ntmps3
  go_wp2_with fail
  refine (drawNew_any seed _ hT.out (by omega)).mono ?_
  rintro e w1 ⟨g, r, rfl, hg, hr, hr2, hS, hb1⟩
  have hT1 := Lib.hid (hT.out.below hb1)
  go_wp2_with fail
  refine (rnew_any seed _ hT1.out (by omega)).mono ?_
  rintro e w2 ⟨g2, r2, rfl, hg2, hr3, hr4, hQ, hb2⟩
  go_wp2_with fail
  refine (dwakes_any _).mono ?_
  rintro e w3 ⟨rfl, hb3⟩
  go_wp2_with fail
  obtain ⟨L, hL⟩ : ∃ L, List.take q xs = L := ⟨_, rfl⟩
  rw [hL] at hS hQ
  clear hL hT hT1
  have B3 : Below w.heap.size w w3 := (hb1.trans (hb2.mono hb1.size)).trans (hb3.mono (Nat.le_trans hb1.size hb2.size))
  have hgl := hS.lt
  have hS3 := (hS.keep (Only.of_below hb2 []) (by simp) (by simp)).keep (Only.of_below hb3 []) (by simp) (by simp)
  have hQ3 := hQ.keep (Only.of_below hb3 []) (by simp) (by simp)
  have n1 : g ∉ [g2] := by simp; omega
  have n2 : r ∉ [g2] := by simp; omega
  have n3 : g2 ∉ [g] := by simp; omega
  have n4 : r2 ∉ [g] := by simp; omega
  have n5 : w.heap.size ≤ g2 := by have := hb1.size; omega
  clear hS hQ hb1 hb2 hb3
  rw [hN]
  clear hN hp hp0 hq
  go_loopw [25] (fun i wr => PlaysInv w g r g2 r2 L N i wr) (fun i _ => N - (intOf i).toNat)
  case atStart => exact ⟨0, 0, seed, rfl, Nat.zero_le _, Nat.zero_le _, hS3, hQ3, B3⟩
  case round =>
    obtain ⟨k, a, st, rfl, hk, ha, hS, hQ, hb⟩ := hrel
    obtain ⟨ys, hy⟩ : ∃ ys, L.drop a = ys := ⟨_, rfl⟩
    rw [hy] at hS
    have hl : ((m16 L).length : Int) - a = (ys.length : Int) := by subst hy; simp [m16]; omega
    by_cases hlt : k < N
    · go_wp2_with fail
      refine (left_any _ hS).mono ?_
      rintro e w' ⟨rfl, rfl⟩
      go_wp2_with fail
      refine (rleft_any _ hQ).mono ?_
      rintro e w' ⟨rfl, nq, rfl⟩
      rw [hl]
      have hS0 := hS.keep ((Only.refl [] _).drewN nq) (by simp) (by simp)
      have hQ0 := hQ.keep ((Only.refl [] _).drewN nq) (by simp) (by simp)
      have B0 : Below w.heap.size w (wr.drewN nq) := ((Only.refl [] wr).drewN nq).below hb.size (by simp) |> hb.trans
      cases ys with
      | nil =>
        have hal : a = (m16 L).length := by
          have h1 := congrArg List.length hy
          simp at h1
          simp [m16]; omega
        go_wp2_with fail
        refine (next_nil _ hS0).mono ?_
        rintro e w4 ⟨rfl, hS4, hO4⟩
        have hQ4 := hQ0.keep hO4 n3 n4
        go_wp2_with fail
        refine (rnext_nil _ hQ4 hal).mono ?_
        rintro e w5 ⟨rfl, hQ5, hO5⟩
        have hS5 := hS4.keep hO5 n1 n2
        have B5 := (B0.trans (hO4.below B0.size (by simpa using hg))).trans (hO5.below (B0.trans (hO4.below B0.size (by simpa using hg))).size (by simpa using n5))
        have hyr : [] = List.drop a L := hy.symm
        rw [hyr] at hS5
        have hI : PlaysInv w g r g2 r2 L N (.int .i64 ((k : Int) + 1)) w5 := ⟨k + 1, a, lcg st, by go_num, by omega, ha, hS5, hQ5, B5⟩
        clear hS0 hQ0 B0 hS4 hQ4 hO4 hO5 hS5 hQ5 B5 hS hQ hb hl hy hyr hal
        go_wp2
        go_roundw
        case rel => first | exact hI | ((repeat apply Exists.intro); exact ⟨hI, rfl⟩)
        case measure => simp [intOf]; omega
      | cons x ys =>
        have hal : a < L.length := by
          have h1 := congrArg List.length hy
          simp at h1
          omega
        have hx : (m16 L).getD a 0 = x % 65536 := by
          have h1 : (L.drop a)[0]? = some x := by rw [hy]; rfl
          rw [List.getElem?_drop] at h1
          simp at h1
          simp [m16, h1]
        have hys : ys = List.drop (a + 1) L := by
          have h1 : List.drop 1 (List.drop a L) = ys := by rw [hy]; rfl
          rw [List.drop_drop] at h1
          exact h1.symm
        go_wp2_with fail
        refine (next_cons _ hS0).mono ?_
        rintro e w4 ⟨rfl, hS4, hO4⟩
        have hQ4 := hQ0.keep hO4 n3 n4
        go_wp2_with fail
        refine (rnext_told _ hQ4 (by simpa [m16] using hal)).mono ?_
        rintro e w5 ⟨rfl, hQ5, hO5⟩
        rw [hx]
        have hS5 := hS4.keep hO5 n1 n2
        have B5 := (B0.trans (hO4.below B0.size (by simpa using hg))).trans (hO5.below (B0.trans (hO4.below B0.size (by simpa using hg))).size (by simpa using n5))
        rw [hys] at hS5
        have hI : PlaysInv w g r g2 r2 L N (.int .i64 ((k : Int) + 1)) w5 := ⟨k + 1, a + 1, st, by go_num, by omega, hal, hS5, hQ5, B5⟩
        clear hS0 hQ0 B0 hS4 hQ4 hO4 hO5 hS5 hQ5 B5 hS hQ hb hl hy hys hal hx
        go_wp2
        go_roundw
        case rel => first | exact hI | ((repeat apply Exists.intro); exact ⟨hI, rfl⟩)
        case measure => simp [intOf]; omega
    · go_wp2_with fail
      refine (left_any _ hS).mono ?_
      rintro e w' ⟨rfl, rfl⟩
      go_wp2_with fail
      refine (rleft_any _ hQ).mono ?_
      rintro e w' ⟨rfl, nq, rfl⟩
      rw [hl]
      go_wp2
      go_ret
      exact ⟨ret_bool (by simp), ((Only.refl [] wr).drewN nq).below hb.size (by simp) |> hb.trans⟩
end Go.Proofs.Ythepgcmbaljbhaa.Mine
