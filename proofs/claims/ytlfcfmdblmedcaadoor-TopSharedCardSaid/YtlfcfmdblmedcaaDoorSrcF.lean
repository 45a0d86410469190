/- The contract of a source's Audit. -/
import Derived.Test.YtlfcfmdblmedcaaDoorSrcE
namespace Go.Proofs.YtlfcfmdblmedcaaDoor.Mine
open Go.RowKit Go.Maps Go.Proofs.YtlfcfmdblmedcaaDoorW.PrintWords

def auditF (f : Int → Option CK) : List Int → Int → Option CK
  | [] => f
  | t :: l => auditF (chkPut f t (some (t, 1, 0))) l
theorem auditF_snoc : ∀ (l : List Int) (f : Int → Option CK) (t : Int), auditF f (l ++ [t]) = chkPut (auditF f l) t (some (t, 1, 0))
  | [], _, _ => rfl
  | x :: l, f, t => auditF_snoc l (chkPut f x (some (x, 1, 0))) t
def auditL (l : List Int) : List Ef := ⟨0, 4, 0, 127, 0⟩ :: l.map fun t => ⟨3, 0, 0, 0, t⟩
theorem auditL_snoc (l : List Int) (t : Int) : auditL (l ++ [t]) = auditL l ++ [⟨3, 0, 0, 0, t⟩] := by simp [auditL]
theorem auditL_length (l : List Int) : (auditL l).length = l.length + 1 := by simp [auditL]
theorem listB_mem (B : Nat) : ∀ k, ∀ t ∈ listB B k, 64 ≤ t ∧ t < 64 + (k : Int)
  | 0, t, h => by simp [listB] at h
  | k + 1, t, h => by
    unfold listB at h
    rcases List.mem_append.1 h with h | h
    · have := listB_mem B k t h; omega
    · split at h
      · simp at h; omega
      · simp at h

structure AudR (w w1 : World) (g gp gm B last n : Nat) (f : Int → Option CK) (A : Option Addr) (L : List Int) (k : Nat) (out : Value) (wr : World) : Prop where
  row : wr.ownsRow w.heap.size 105 5 out (k + 1) (efCells (auditL (L.take k)))
  src : SrcAt wr g gp gm B last (auditF f (L.take k)) (n + k)
  only : Only [gm] w wr
  list : L = [] ∨ ∃ r, A = some ⟨r, 0, none⟩ ∧ w1.heap.size ≤ r ∧ r < wr.heap.size ∧ Row wr r 0 L ∧ out.ownBlock ≠ some r

set_option maxHeartbeats 4000000 in
set_option maxRecDepth 100000 in
theorem audit_any {g gp gm B last n : Nat} {f : Int → Option CK} (w : World) (h : SrcAt w g gp gm B last f n) (hn : n < 1000000) :
    Calls Tryd.prog 23 #[.pointer (some ⟨g, 0, none⟩)] w fun e w' =>
      ∃ v, e = .returned v ∧ SEfs w.heap.size w' v (auditL (listB B 63)) ∧ SrcAt w' g gp gm B last (auditF f (listB B 63)) (n + (listB B 63).length) ∧ Only [gm] w w' := by
  have hlt := h.lt
  have hne := h.ne
  have H := Lib.hid h
  clear h
  go_enter Tryd.func23, Tryd.ntmps23
  go_wp2_with fail
  refine (ssaid_any _ _ _ _).mono ?_
  rintro e w1 ⟨rfl, b1⟩
  have hrow := own_lit (w := w1) (B := w.heap.size) (e := 105) (size := 5) (n := 1) (cs := efCells (auditL [])) rfl rfl b1.size (by decide)
  have b2 := b1.alloc b1.size (.cells (efCells (auditL [])).toArray 105)
  have hs2 := H.out.below b2
  have HROW := Lib.hid hrow
  have HB2 := Lib.hid b2
  have HS2 := Lib.hid hs2
  clear b1 hrow b2 hs2
  simp only [auditL, List.map_nil, efCells, Ef.vals, List.append_nil] at HROW HB2 HS2
  go_wp2_with fail
  refine (slist_any _ HS2.out).mono ?_
  rintro e w3 ⟨A, c, rfl, hl3, b3⟩
  have hlen := listB_length B 63
  have hmem := listB_mem B 63
  obtain ⟨L, hL⟩ : ∃ L, listB B 63 = L := ⟨_, rfl⟩
  rw [hL] at hl3 hlen hmem ⊢
  have HLL := Lib.hid hL
  obtain ⟨hlc, hl3⟩ := hl3
  have hR : AudR w (w1.alloc (.cells #[.int .i64 0, .int .i64 4, .int .i64 0, .int .i64 127, .int .i64 0] 105)) g gp gm B last n f A L 0 (.slice (some ⟨w1.heap.size, 0, none⟩) 1 1) w3 := by
    refine ⟨?_, ?_, ?_, ?_⟩
    · rw [List.take_zero]
      exact own_keep HROW.out (fun q hq => b3.block q (own_lt HROW.out q hq))
    · rw [List.take_zero]
      exact HS2.out.below b3
    · exact (Only.mk HB2.out.os HB2.out.tape HB2.out.output HB2.out.size (fun k hk _ => HB2.out.block k hk)).trans (Only.of_below b3 _)
    · rcases hl3 with hl3 | ⟨r, h1, h2, h3, h4⟩
      · exact Or.inl hl3
      · refine Or.inr ⟨r, h1, h2, h3, h4, ?_⟩
        simp [Value.ownBlock]
        simp at h2
        omega
  have HRR := Lib.hid hR
  have HMEM := Lib.hid hmem
  clear hR hmem hl3 b3 hL
  go_wp2_with fail
  go_loopw [13, 3] (fun i out wr => ∃ k : Nat, i = .int .i64 k ∧ k ≤ L.length ∧ AudR w (w1.alloc (.cells #[.int .i64 0, .int .i64 4, .int .i64 0, .int .i64 127, .int .i64 0] 105)) g gp gm B last n f A L k out wr) (fun i _ _ => L.length - (intOf i).toNat)
  case atStart => exact ⟨0, rfl, Nat.zero_le _, HRR.out⟩
  case round =>
    clear HRR
    obtain ⟨k, rfl, hk, hR⟩ := hrel
    by_cases hkl : k < L.length
    · rcases hR.list with h0 | ⟨r, rfl, hr1, hr2, hr3, hr4⟩
      · subst h0; simp at hkl
      obtain ⟨t, ht⟩ : ∃ t, L.getD k 0 = t := ⟨_, rfl⟩
      have hrc := hr3 k hkl
      rw [ht, Nat.zero_add] at hrc
      have htm := HMEM.out t (by rw [← ht, List.getD_eq_getElem?_getD, List.getElem?_eq_getElem hkl]; exact List.getElem_mem hkl)
      have hwf := wf_tei (tei := t) (by omega)
      obtain ⟨c0, c1⟩ := hR.src.cells
      have htk : L.take (k + 1) = L.take k ++ [t] := by
        rw [List.take_add_one, List.getElem?_eq_getElem hkl, ← ht, List.getD_eq_getElem?_getD, List.getElem?_eq_getElem hkl]; rfl
      have HRR := Lib.hid hR
      have HWF := Lib.hid hwf
      have HTK := Lib.hid htk
      have hrow := hR.row
      obtain ⟨A2, c2, rfl⟩ := own_slice hrow
      have hsz := hR.only.size
      have HR3 := Lib.hid hr3
      clear hR hwf htk hrow hr3 ht
      go_wp2_with (at_mapUpdate; refine wpList_store_chk rfl _ _ _ rfl HRR.out.src.chk t (t, 1, 0) rfl rfl rfl HWF.out (by unfold maxLen; omega) ?_)
      intro w5 hc5 k5
      have hr5 := own_keep HRR.out.row (fun q hq => k5.block q (own_lt HRR.out.row q hq) (by have := (HRR.out.row.lt q hq).1; simp; omega))
      have HR5 := Lib.hid hr5
      have HC5 := Lib.hid hc5
      have HK5 := Lib.hid k5
      have hsz5 : w.heap.size ≤ w5.heap.size := Nat.le_trans hsz k5.size
      clear hr5 hc5 k5 c0 c1
      go_wp2_with (at_builtin; refine print_append_cells (w0 := w5) w.heap.size rfl _ _ 65 105 (.agg #[.int .i64 0, .int .i64 0, .int .i64 0, .int .i64 0, .int .i64 0]) 5 40 rfl Tryd.underlying65 infoSE rfl (by decide) (by decide) _ (k + 1) (efCells (auditL (L.take k))) [.int .i64 3, .int .i64 0, .int .i64 0, .int .i64 0, .int .i64 t] rfl rfl rfl (by simp [Value.oneCell']) ?c1 ?c2 ?c3 ?c4 ?c5)
      case c1 => exact HR5.out
      case c2 => exact Below.refl _ _
      case c3 => exact hsz5
      case c4 => omega
      case c5 =>
        intro v6 w6 hown6 _ hgr6 hat
        have hnb : ∀ q, q < w.heap.size → w6.heap[q]? = w5.heap[q]? := fun q hq => hgr6.block q (by omega) (fun e => by
          have := (HR5.out.lt q e.symm).1
          omega)
        have hR6 : AudR w (w1.alloc (.cells #[.int .i64 0, .int .i64 4, .int .i64 0, .int .i64 127, .int .i64 0] 105)) g gp gm B last n f (some ⟨r, 0, none⟩) L (k + 1) v6 w6 := by
          refine ⟨?_, ?_, ?_, ?_⟩
          · rw [HTK.out, auditL_snoc, efc_append]
            exact hown6
          · rw [HTK.out, auditF_snoc]
            exact ⟨(hnb g hlt.1).trans (HK5.out.at HRR.out.src.box (by simp; omega)), ⟨(hnb gp hlt.2.1).trans (HRR.out.src.pool.keep HK5.out (by simp; omega)).1, HRR.out.src.pool.2⟩, HC5.out.move (hnb gm hlt.2.2)⟩
          · refine ⟨hgr6.os.trans (HK5.out.os.trans HRR.out.only.os), hgr6.tape.trans (HK5.out.tape.trans HRR.out.only.tape), hgr6.output.trans (HK5.out.output.trans HRR.out.only.output), Nat.le_trans hsz5 hgr6.size, fun q hq hqs => ?_⟩
            rw [hnb q hq, HK5.out.block q (Nat.lt_of_lt_of_le hq hsz) hqs]
            exact HRR.out.only.block q hq hqs
          · have hrr : w.heap.size ≤ r := Nat.le_trans (Nat.le_trans HB2.out.size (Nat.le_refl _)) hr1
            have hr65 : r < w5.heap.size := Nat.lt_of_lt_of_le hr2 HK5.out.size
            refine Or.inr ⟨r, rfl, hr1, Nat.lt_of_lt_of_le hr65 hgr6.size, ?_, ?_⟩
            · exact (HR3.out.keep (fun _ => HK5.out.block r hr2 (by simp; omega))).keep (fun _ => hgr6.block r hr65 (fun e => hr4 e.symm))
            · rcases hat with hat | ⟨b, hb1, hb2⟩
              · rw [hat]; exact hr4
              · rw [hb1]; intro e; injection e with e; omega
        have HR6 := Lib.hid hR6
        clear hR6 hnb hgr6 hown6 hat
        go_wp2
        go_roundw
        case rel => exact ⟨k + 1, by go_num, by omega, HR6.out⟩
        case measure => simp [intOf]; omega
    · obtain rfl : k = L.length := by omega
      have h1 := hR.row
      have h2 := hR.src
      rw [List.take_length] at h1 h2
      have H1 := Lib.hid h1
      have H2 := Lib.hid h2
      have H3 := Lib.hid hR.only
      clear h1 h2 hR
      go_wp2
      go_ret
      rw [HLL.out]
      refine ⟨_, rfl, ?_, H2.out, H3.out⟩
      unfold SEfs
      rw [auditL_length]
      exact H1.out
end Go.Proofs.YtlfcfmdblmedcaaDoor.Mine
