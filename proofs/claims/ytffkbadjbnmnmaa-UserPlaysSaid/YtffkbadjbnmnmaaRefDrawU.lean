/- The contracts of the reference of layer 11: New, Next. -/
import Derived.Test.YtffkbadjbnmnmaaDrawNew
import Derived.RegionTactic
import Derived.ChangeAlike
import Derived.Deep.QuietTactic
import Derived.BigQuiet
namespace Go.Proofs.Ytffkbadjbnmnmaa.Mine
open Go.RowKit Go.Proofs.YtffkbadjbnmnmaaW.PrintWords

theorem rlcg_of (st : Int) : IntKind.u64.wrap (IntKind.u64.wrap (6364136223846793005 * st) + 1442695040888963407) = lcg st := by
  rw [Int.mul_comm]; exact lcg_of st
theorem rlcg_top (st : Int) : wrap64 (IntKind.u64.wrap ((IntKind.u64.wrap (IntKind.u64.wrap (6364136223846793005 * st) + 1442695040888963407)).tdiv 281474976710656)) = lcg st / 281474976710656 := by
  have := lcg_range st
  have e : ∀ n : Int, IntKind.u64.wrap n = n % 18446744073709551616 := fun n => by simp [IntKind.wrap, IntKind.bits, IntKind.signed]
  rw [rlcg_of, Int.tdiv_eq_ediv_of_nonneg (by omega), e, w64 _ (by omega) (by omega)]
  omega

/-- The reference's source in block g: its list xs lies in block r; 'a' of them are told. -/
def RSrc (w : World) (g r : Nat) (xs : List Int) (a : Nat) (st : Int) : Prop :=
  ∃ A c, w.heap[g]? = some (.cells #[.slice A xs.length c, .int .i64 a, .int .u64 st] 78 (0, 0)) ∧ xs.length ≤ c ∧ a ≤ xs.length ∧ xs.length ≤ 140737488355328 ∧ (xs = [] ∨ g ≠ r ∧ A = some ⟨r, 0, none⟩ ∧ Row w r 0 xs)
theorem RSrc.keep {w w' : World} {g r : Nat} {xs : List Int} {a : Nat} {st : Int} {S : List Nat} (h : RSrc w g r xs a st) (k : Only S w w') (hg : g ∉ S) (hr : r ∉ S) : RSrc w' g r xs a st := by
  obtain ⟨A, c, h1, h2, h4, h5, h6⟩ := h
  refine ⟨A, c, k.at h1 hg, h2, h4, h5, h6.imp id ?_⟩
  rintro ⟨h3, hA, hrow⟩
  exact ⟨h3, hA, hrow.keep (fun hl => k.block r hl hr)⟩

theorem rnext_told {g r : Nat} {xs : List Int} {a : Nat} {st : Int} (w : World) (h : RSrc w g r xs a st) (ha : a < xs.length) :
    Calls Try.prog 43 #[.pointer (some ⟨g, 0, none⟩)] w fun e w' => e = .returned (.int .i64 (xs.getD a 0)) ∧ RSrc w' g r xs (a + 1) st ∧ Only [g] w w' := by
  obtain ⟨A, c, h1, h2, h4, h5, h6⟩ := h
  obtain ⟨h3, rfl, hrow⟩ : g ≠ r ∧ A = some ⟨r, 0, none⟩ ∧ Row w r 0 xs := by
    rcases h6 with rfl | h6
    · simp at ha
    · exact h6
  have c0 := at_cell h1 0
  have c1 := at_cell h1 1
  have f1 := at_frozen h1 1
  have x0 := hrow a ha
  simp at c0 c1 x0
  have H1 := Lib.hid h1
  have HR := Lib.hid hrow
  have HX : Hid (xs.getD a 0 = xs[a]?.getD 0) := Lib.hid (by simp)
  clear h1 hrow h6
  go_enter Try.func43, Try.ntmps43
  go_wp2
  go_quiet (fail)
  go_wp2
  have h3' : r ≠ g := fun e => h3 e.symm
  have b0 : (0 : Int) ≤ a + 1 - 1 := by omega
  have b1 : ((a : Int) + 1 - 1) < xs.length := by omega
  have b2 : ((a : Int) + 1 - 1).toNat = a := by omega
  go_quiet (fail)
  go_wp2
  go_ret
  refine ⟨ret_int (by simp [ha]), ?_, (((Only.refl _ _).drewN _).setCell (Or.inl (by simp)) _).drewN _⟩
  have h1 := H1.out
  refine ⟨_, c, ?_, h2, by omega, h5, Or.inr ⟨h3, rfl, ?_⟩⟩
  · show ((w.drewN _).setCell ⟨g, 1, none⟩ _).heap[g]? = _
    rw [at_set (w := w.drewN _) h1 1 _]; rfl
  · exact HR.out.keep (fun _ => Below.heap_setCell (w.drewN _) _ _ _ h3')

theorem rnext_nil {g r : Nat} {xs : List Int} {a : Nat} {st : Int} (w : World) (h : RSrc w g r xs a st) (ha : a = xs.length) :
    Calls Try.prog 43 #[.pointer (some ⟨g, 0, none⟩)] w fun e w' => e = .returned (.int .i64 (lcg st / 281474976710656)) ∧ RSrc w' g r xs a (lcg st) ∧ Only [g] w w' := by
  obtain ⟨A, c, h1, h2, h4, h5, h6⟩ := h
  have c0 := at_cell h1 0
  have c1 := at_cell h1 1
  have c2 := at_cell h1 2
  have f2 := at_frozen h1 2
  have hlt : decide ((a : Int) < xs.length) = false := decide_eq_false (by omega)
  have hlt' : ¬ a < xs.length := by omega
  simp at c0 c1 c2
  have H1 := Lib.hid h1
  have H6 := Lib.hid h6
  have HA := Lib.hid ha
  clear h1 h6 ha
  go_enter Try.func43, Try.ntmps43
  go_wp2
  go_quiet (fail)
  go_wp2
  go_ret
  refine ⟨ret_int (rlcg_top st), ?_, (((Only.refl _ _).drewN _).setCell (Or.inl (by simp)) _)⟩
  have h1 := H1.out
  refine ⟨A, c, ?_, h2, h4, h5, H6.out.imp id ?_⟩
  · rw [at_set (w := w.drewN _) h1 2 _, rlcg_of]; rfl
  · rintro ⟨h3, hA, hrow⟩
    exact ⟨h3, hA, hrow.keep (fun _ => Below.heap_setCell (w.drewN _) _ _ _ (fun e => h3 e.symm))⟩

theorem tmod_65536 (x : Int) : Int.tmod x 65536 = if 0 ≤ x then x % 65536 else -((-x) % 65536) := by
  by_cases h : 0 ≤ x
  · rw [if_pos h, Int.tmod_eq_emod_of_nonneg h]
  · rw [if_neg h]
    have e : x = -(-x) := by omega
    rw [e, Int.neg_tmod, Int.tmod_eq_emod_of_nonneg (by omega)]; simp

/-- What the reference keeps of a list: each number modulo 65536. -/
def m16 (xs : List Int) : List Int := xs.map (· % 65536)

def RNewInv (w : World) (n : Nat) (xs : List Int) (seed : Int) (i : Value) (wr : World) : Prop :=
  ∃ k : Nat, k ≤ n ∧ i = .int .i64 k ∧ ∃ v, wr.heap[w.heap.size]? = some (.cells #[v, .int .i64 0, .int .u64 seed] 78 (0, 0)) ∧
    wr.ownsRow (w.heap.size + 1) 3 1 v k (nums .i64 (m16 (xs.take k))) ∧ Below w.heap.size w wr

set_option maxHeartbeats 1000000 in
set_option maxRecDepth 100000 in
theorem rnew_any {A : Option Addr} {n c : Nat} {xs : List Int} (seed : Int) (w : World) (hR : ReadsInt w .i64 A n xs) (hn : n * 8 ≤ 140737488355328) :
    Calls Try.prog 21 #[.int .u64 seed, .slice A n c] w fun e w' => ∃ g r, e = .returned (.pointer (some ⟨g, 0, none⟩)) ∧ w.heap.size ≤ g ∧ w.heap.size ≤ r ∧ r < w'.heap.size ∧ RSrc w' g r (m16 xs) 0 seed ∧ Below w.heap.size w w' := by
  have HL := Lib.hid hR.1
  have HR := Lib.hid hR
  clear hR
  go_enter Try.func21, Try.ntmps21
  go_wp2
  have hnew := at_new w (.cells #[Value.slice none 0 0, Value.int IntKind.i64 0, Value.int IntKind.u64 seed] 78)
  have hnew' := Lib.hid hnew; clear hnew
  go_loopw [6] (fun i wr => RNewInv w n xs seed i wr) (fun i _ => n - (intOf i).toNat)
  case atStart => exact ⟨0, Nat.zero_le _, rfl, _, hnew'.out, own_nil _ _ _ _, (Below.refl _ _).alloc (Nat.le_refl _) _⟩
  case round =>
    obtain ⟨k, hk, rfl, v, hg, ho, hb⟩ := hrel
    obtain ⟨A', c', rfl⟩ := own_slice ho
    have c0 := at_cell hg 0
    have f0 := at_frozen hg 0
    simp at c0
    have hz := lt_of_at hg
    have HG := Lib.hid hg
    have HO := Lib.hid ho
    have HB := Lib.hid hb
    clear hg ho hb
    by_cases hlt : k < n
    · obtain ⟨ad, rfl, hcell⟩ := HR.out.2.2 (by omega)
      have hx : wr.cell? (ad.add k) = some (.int .i64 (xs.getD k 0)) := (HB.out.cell (World.block_lt_of_cell? w _ (hcell k hlt))).trans (hcell k hlt)
      have HC := Lib.hid hcell
      clear hcell
      obtain ⟨x, ex⟩ : ∃ x, xs.getD k 0 = x := ⟨_, rfl⟩
      rw [ex] at hx
      have HEX := Lib.hid ex
      clear ex
      have hlen : (m16 (xs.take k)).length = k := by have := HL.out; simp [m16]; omega
      have hlen' := Lib.hid hlen; clear hlen
      have e0 := tmod_65536 x
      by_cases hneg : Int.tmod x 65536 < 0
      all_goals
        first
          | (have e1 : Int.tmod x 65536 = x % 65536 - 65536 := by split at e0 <;> omega)
          | (have e1 : Int.tmod x 65536 = x % 65536 := by split at e0 <;> omega)
        rw [e1] at hneg
        clear e0
        have y0 : 0 ≤ x % 65536 := by omega
        have y1 : x % 65536 ≤ 65535 := by omega
        go_wp2_with (at_builtin; refine print_append_num (w0 := wr) (w.heap.size + 1) rfl _ _ 65 3 .i64 8 rfl Try.underlying65 infoInt (by decide) _ (m16 (xs.take k)) (x % 65536) rfl rfl ?c1 ?c2 ?c3 ?c4 ?c5)
        case c1 => rw [hlen'.out]; exact HO.out
        case c2 => exact Below.refl _ _
        case c3 => exact hz
        case c4 => rw [hlen'.out]; omega
        case c5 =>
          intro v1 w1 hown hb1 hg1 _
          obtain ⟨A1, c1, rfl⟩ := own_slice hown
          have hgw : w1.heap[w.heap.size]? = _ := (hg1.block _ hz (fun e => by have := own_base HO.out _ e.symm; omega)).trans HG.out
          have d0 := at_cell hgw 0
          have q0 := at_frozen hgw 0
          simp at d0
          have hzz := lt_of_at hgw
          have HG1 := Lib.hid hgw
          have HO1 := Lib.hid hown
          have HB1 := Lib.hid (HB.out.trans (hb1.mono (Nat.le_succ _)))
          clear hgw hown hb1 hg1
          go_wp2
          go_roundw
          case rel =>
            refine ⟨k + 1, by omega, by go_num, .slice A1 ((m16 (List.take k xs)).length + 1) c1, ?_, ?_, HB1.out.setCell (Nat.le_refl _) _⟩
            · rw [at_set HG1.out 0 _]; rfl
            · have hk1 : m16 (xs.take (k + 1)) = m16 (xs.take k) ++ [x % 65536] := by
                have hkl : k < xs.length := by rw [HL.out]; exact hlt
                rw [List.take_succ_eq_append_getElem hkl]
                have hx2 := HEX.out
                rw [List.getD_eq_getElem?_getD, List.getElem?_eq_getElem hkl] at hx2
                simp only [Option.getD_some] at hx2
                simp [m16, hx2]
              have ho := HO1.out
              have hk2 := hlen'.out
              rw [hk1]
              rw [hk2] at ho ⊢
              exact ownsRow_setCell_below ho (Nat.lt_succ_self _) _
          case measure => simp [intOf]; omega
    · obtain rfl : k = n := by omega
      go_wp2
      go_ret
      have hxl : xs.take k = xs := List.take_of_length_le (by rw [HL.out]; exact Nat.le_refl _)
      have ho := HO.out
      rw [hxl] at ho
      obtain ⟨A2, c2, hv, hc, hx⟩ := Row.of_own ho
      injection hv with hv1 hv2 hv3
      subst hv1 hv3
      have hg := HG.out
      rw [hv2] at hg
      rcases hx with hx | ⟨r, rfl, hr, hr2, hrow⟩
      · exact ⟨w.heap.size, w.heap.size, rfl, Nat.le_refl _, Nat.le_refl _, hz, ⟨_, _, hg, hc, Nat.zero_le _, by rw [hx]; decide, Or.inl hx⟩, HB.out⟩
      · exact ⟨w.heap.size, r, rfl, Nat.le_refl _, by omega, hr2, ⟨_, _, hg, hc, Nat.zero_le _, by omega, Or.inr ⟨by omega, rfl, hrow⟩⟩, HB.out⟩
end Go.Proofs.Ytffkbadjbnmnmaa.Mine
