/- DrawTold: the walk of the law, for every seed, every list that a slice reads as, and every number. -/
import Derived.Test.YthepgcmbaljbhaaDrawWakes
import Derived.Test.YthepgcmbaljbhaaRefDraw
namespace Go.Proofs.Ythepgcmbaljbhaa.Mine
open Go.RowKit Go.Proofs.YthepgcmbaljbhaaW.PrintWords

def ToldInv (w : World) (g r g2 r2 : Nat) (L : List Int) (seed : Int) (i : Value) (wr : World) : Prop :=
  ∃ k : Nat, i = .int .i64 k ∧ k ≤ L.length ∧ Src wr g r (L.drop k) seed ∧ Src wr g2 r2 [] seed ∧ Below w.heap.size w wr
def ThenInv (w : World) (g r g2 r2 : Nat) (N : Nat) (i : Value) (wr : World) : Prop :=
  ∃ (k : Nat) (st : Int), i = .int .i64 k ∧ k ≤ N ∧ Src wr g r [] st ∧ Src wr g2 r2 [] st ∧ Below w.heap.size w wr

attribute [local go_sem] max_int min_int max_of_two min_of_two
set_option maxHeartbeats 1000000 in
set_option maxRecDepth 100000 in
theorem told_any {A : Option Addr} {n c : Nat} {xs : List Int} (seed m : Int) (w : World) (hR : ReadsInt w .i64 A n xs) (hc : n ≤ c) (hn : n * 8 ≤ 140737488351232) :
    Calls Try.prog 5 #[.int .u64 seed, .slice A n c, .int .i64 m] w fun e w' => e = .returned (.bool true) ∧ Below w.heap.size w w' := by
  obtain ⟨q, hq, hqn, -⟩ := cut_at n 50 (by decide)
  obtain ⟨p, N, hp, hp0, hN, hN3, -⟩ := rounds_of m 100 (by decide)
  have hqc : q ≤ c := by omega
  have hT := Lib.hid (hR.take_ q hqn)
  clear hR
  go_enter Try.func5, Try.ntmps5
  go_wp2_with fail
  refine (drawNew_any seed _ hT.out (by omega)).mono ?_
  rintro e w1 ⟨g, r, rfl, hg, hr, hr2, hS, hb1⟩
  go_wp2_with fail
  refine (drawNew_any seed _ (ReadsInt.nil w1 .i64) (by decide)).mono ?_
  rintro e w2 ⟨g2, r2, rfl, hg2, hr3, hr4, hQ, hb2⟩
  go_wp2_with fail
  obtain ⟨L, hL⟩ : ∃ L, List.take q xs = L := ⟨_, rfl⟩
  have hLq : L.length = q := by have := hT.out.1; rw [hL] at this; exact this
  rw [hL] at hS hT
  clear hL
  have B2 : Below w.heap.size w w2 := hb1.trans (hb2.mono hb1.size)
  have hgl := hS.lt
  have hS2 := hS.keep (Only.of_below hb2 []) (by simp) (by simp)
  have n1 : g ∉ [g2] := by simp; omega
  have n2 : r ∉ [g2] := by simp; omega
  have n3 : g2 ∉ [g] := by simp; omega
  have n4 : r2 ∉ [g] := by simp; omega
  have n5 : w.heap.size ≤ g2 := by have := hb1.size; omega
  have H5 := Lib.hid hLq
  clear hS hb1 hb2 hq hLq
  have HN := Lib.hid hN
  have HP := Lib.hid hp
  clear hN hp
  go_loopw [24] (fun i wr => ToldInv w g r g2 r2 L seed i wr) (fun i _ => q - (intOf i).toNat)
  case atStart => exact ⟨0, rfl, Nat.zero_le _, hS2, hQ, B2⟩
  case round =>
    obtain ⟨k, rfl, hk, hS, hQ, hb⟩ := hrel
    have hkq : k ≤ q := by have := H5.out; omega
    by_cases hlt : k < q
    · obtain ⟨ad, hA, hcell⟩ := hT.out.2.2 (by omega)
      subst hA
      obtain ⟨x, ys, hy⟩ : ∃ x ys, L.drop k = x :: ys := by
        have := H5.out
        exact ⟨_, _, List.drop_eq_getElem_cons (by omega)⟩
      have hx : wr.cell? (ad.add k) = some (.int .i64 x) := by
        have h0 := hcell k hlt
        have h1 : (L.drop k)[0]? = some x := by rw [hy]; rfl
        rw [List.getElem?_drop] at h1
        simp at h1
        rw [List.getD_eq_getElem?_getD, h1] at h0
        exact (hb.cell (World.block_lt_of_cell? w _ h0)).trans h0
      have hys : ys = List.drop (k + 1) L := by
        have h1 : List.drop 1 (List.drop k L) = ys := by rw [hy]; rfl
        rw [List.drop_drop] at h1
        exact h1.symm
      have hl : (((x :: ys).length : Nat) : Int) = (q : Int) - k := by
        have h1 := congrArg List.length hy
        have := H5.out
        simp at h1 ⊢
        omega
      rw [hy] at hS
      clear hcell hy
      have e0 := tmod_65536 x
      by_cases hneg : Int.tmod x 65536 < 0
      all_goals
        first
          | (have e1 : Int.tmod x 65536 = x % 65536 - 65536 := by split at e0 <;> omega)
          | (have e1 : Int.tmod x 65536 = x % 65536 := by split at e0 <;> omega)
        have e2 : (x % 65536 + 65536) % 65536 = x % 65536 := by omega
        clear e0 hneg
        have y0 : 0 ≤ x % 65536 := by omega
        have y1 : x % 65536 ≤ 65535 := by omega
        go_wp2_with fail
        refine (left_any _ hS).mono ?_
        rintro e w' ⟨rfl, rfl⟩
        rw [hl]
        go_wp2_with fail
        refine (next_cons _ hS).mono ?_
        rintro e w4 ⟨rfl, hS4, hO4⟩
        have hQ4 := hQ.keep hO4 n3 n4
        have B4 := hb.trans (hO4.below hb.size (by simpa using hg))
        rw [hys] at hS4
        have hI : ToldInv w g r g2 r2 L seed (.int .i64 ((k : Int) + 1)) w4 := ⟨k + 1, by go_num, by have := H5.out; omega, hS4, hQ4, B4⟩
        clear hS hQ hO4 hQ4 B4 hS4 hb
        go_wp2
        go_roundw
        case rel => exact hI
        case measure => simp [intOf]; omega
    · have hkq2 : k = L.length := by have := H5.out; omega
      have hS0 : Src wr g r [] seed := by
        have h0 : L.drop k = [] := by rw [hkq2]; exact List.drop_length
        rwa [h0] at hS
      clear hS hkq2
      have hN := HN.out
      have hp := HP.out
      go_wp2_with fail
      rw [hN]
      clear hN hp hp0
      go_loopw [49] (fun i wr => ThenInv w g r g2 r2 N i wr) (fun i _ => N - (intOf i).toNat)
      case atStart => exact ⟨0, seed, rfl, Nat.zero_le _, hS0, hQ, hb⟩
      case round =>
        obtain ⟨j, st, rfl, hj, hS1, hQ1, hb1⟩ := hrel
        by_cases hjt : j < N
        · have z0 := lcg_range st
          have z1 : 0 ≤ lcg st / 281474976710656 := by omega
          have z2 : lcg st / 281474976710656 ≤ 65535 := by omega
          clear z0
          go_wp2_with fail
          refine (next_nil _ hS1).mono ?_
          rintro e w4 ⟨rfl, hS4, hO4⟩
          have hQ4 := hQ1.keep hO4 n3 n4
          go_wp2_with fail
          refine (next_nil _ hQ4).mono ?_
          rintro e w5 ⟨rfl, hQ5, hO5⟩
          have hS5 := hS4.keep hO5 n1 n2
          have B4 := hb1.trans (hO4.below hb1.size (by simpa using hg))
          have B5 := B4.trans (hO5.below B4.size (by simpa using n5))
          have hI : ThenInv w g r g2 r2 N (.int .i64 ((j : Int) + 1)) w5 := ⟨j + 1, lcg st, by go_num, by omega, hS5, hQ5, B5⟩
          clear hS1 hQ1 hS4 hQ4 hO4 hO5 hS5 hQ5 B4 B5 hb1 hQ hb hS0
          go_wp2
          go_roundw
          case rel => exact hI
          case measure => simp [intOf]; omega
        · go_wp2_with fail
          refine (dwakes_any _).mono ?_
          rintro e w4 ⟨rfl, hb4⟩
          go_wp2
          go_ret
          exact ⟨rfl, hb1.trans (hb4.mono hb1.size)⟩
end Go.Proofs.Ythepgcmbaljbhaa.Mine
