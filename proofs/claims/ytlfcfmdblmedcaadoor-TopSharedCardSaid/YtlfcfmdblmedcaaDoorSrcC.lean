/- The contracts of a source's remove and response. -/
import Derived.Test.YtlfcfmdblmedcaaDoorSrcB
namespace Go.Proofs.YtlfcfmdblmedcaaDoor.Mine
open Go.RowKit Go.Maps Go.Proofs.YtlfcfmdblmedcaaDoorW.PrintWords

theorem wf_tei {tei : Int} (h : 0 ≤ tei ∧ tei ≤ 127) : (Lit.int .i64 tei).wf = true := by
  simp [Lit.wf, IntKind.min, IntKind.max, IntKind.signed, IntKind.bits]; omega

set_option maxHeartbeats 4000000 in
theorem remove_any {g gp gm B last n : Nat} {f : Int → Option CK} {c : CK} (tei : Int) (w : World) (h : SrcAt w g gp gm B last f n) (ht : 64 ≤ tei ∧ tei ≤ 126) (hf : f tei = some c) (hB : hasB B tei = true) :
    Calls Tryd.prog 74 #[.pointer (some ⟨g, 0, none⟩), .int .i64 tei] w fun e w' =>
      ∃ v, e = .returned v ∧ SEfs w.heap.size w' v [⟨0, 6, 0, tei, 0⟩, ⟨0, 6, 0, tei, 0⟩, ⟨4, 0, 0, 0, tei⟩, ⟨2, 0, 0, 0, tei⟩] ∧ SrcAt w' g gp gm (freeB B tei) last (chkPut f tei none) n ∧ Only [gp, gm] w w' := by
  have hne := h.ne
  have hlt := h.lt
  have hwf := wf_tei (tei := tei) (by omega)
  have H := Lib.hid h
  have HF := Lib.hid hf
  have HHB := Lib.hid hB
  have HWF := Lib.hid hwf
  clear h hf hB hwf
  go_enter Tryd.func74, Tryd.ntmps74
  go_wp2_with fail
  refine (ssaid_any _ _ _ _).mono ?_
  rintro e w1 ⟨rfl, b1⟩
  go_wp2_with fail
  refine (ssaid_any _ _ _ _).mono ?_
  rintro e w2 ⟨rfl, b2⟩
  have b12 := b1.trans (b2.mono b1.size)
  have hrow := own_lit (w := w2) (B := w.heap.size) (e := 105) (size := 5) (n := 2) (cs := efCells [⟨0, 6, 0, tei, 0⟩, ⟨0, 6, 0, tei, 0⟩]) rfl rfl b12.size (by decide)
  have b3 := b12.alloc b12.size (.cells (efCells [⟨0, 6, 0, tei, 0⟩, ⟨0, 6, 0, tei, 0⟩]).toArray 105)
  have hs3 := H.out.below b3
  obtain ⟨c0, c1⟩ := hs3.cells
  have hlook := hs3.chk.look tei HWF.out
  rw [HF.out] at hlook
  obtain ⟨ca, cb, cc⟩ := c
  simp only [ckV, Option.getD_some, Option.isSome_some] at hlook
  have hr4 := hrow.alloc (.cells #[.int .i64 ca, .int .i64 cb, .int .i64 cc] 125)
  have b4 := b3.alloc b3.size (.cells #[.int .i64 ca, .int .i64 cb, .int .i64 cc] 125)
  have hs4 := H.out.below b4
  obtain ⟨d0, d1⟩ := hs4.cells
  have HR4 := Lib.hid hr4
  have HB4 := Lib.hid b4
  have HS4 := Lib.hid hs4
  have hws := b12.size
  clear b1 b2 b12 hrow b3 hs3 hr4 b4 hs4
  simp only [efCells, Ef.vals, List.append_nil, List.cons_append, List.nil_append] at c0 c1 d0 d1 hlook HR4 HB4 HS4
  go_wp2_with (at_delete; refine wpList_strike_chk rfl _ _ rfl HS4.out.chk tei rfl rfl HWF.out ?_)
  intro w5 hc5 k5
  have hr5 := own_keep HR4.out (fun q hq => k5.block q (own_lt HR4.out q hq) (by have := (HR4.out.lt q hq).1; simp; omega))
  have HR5 := Lib.hid hr5
  have HC5 := Lib.hid hc5
  have HK5 := Lib.hid k5
  have hbx5 := k5.at HS4.out.box (by simp; omega)
  have HBX5 := Lib.hid hbx5
  have hwsz : w.heap.size ≤ w5.heap.size := Nat.le_trans HB4.out.size k5.size
  have HP5 := Lib.hid (HS4.out.pool.keep k5 (by simp; omega))
  clear hc5 k5 hr5 hbx5 c0 c1 d0 d1 hlook
  go_wp2_with (at_builtin; refine print_append_cells (w0 := w5) w.heap.size rfl _ _ 65 105 (.agg #[.int .i64 0, .int .i64 0, .int .i64 0, .int .i64 0, .int .i64 0]) 5 40 rfl Tryd.underlying65 infoSE rfl (by decide) (by decide) _ 2 (efCells [⟨0, 6, 0, tei, 0⟩, ⟨0, 6, 0, tei, 0⟩]) [.int .i64 4, .int .i64 0, .int .i64 0, .int .i64 0, .int .i64 tei] rfl rfl rfl (by simp [Value.oneCell']) ?c1 ?c2 ?c3 ?c4 ?c5)
  case c1 => exact HR5.out
  case c2 => exact Below.refl _ _
  case c3 => exact hwsz
  case c4 => omega
  case c5 =>
    intro v6 w6 hown6 _ hgr6 _
    have hnb : ∀ k, k < w.heap.size → w6.heap[k]? = w5.heap[k]? := fun k hk => hgr6.block k (by omega) (fun e => by
      have := (HR5.out.lt k e.symm).1
      omega)
    obtain ⟨A6, c6, rfl⟩ := own_slice hown6
    have hbx6 := (hnb g hlt.1).trans HBX5.out
    have hp6 : PoolAt w6 gp B last := ⟨(hnb gp hlt.2.1).trans HP5.out.1, HP5.out.2⟩
    have hc6 := HC5.out.move (hnb gm hlt.2.2)
    have y0 := at_cell hbx6 0
    simp at y0
    have hws6 : w.heap.size ≤ w6.heap.size := Nat.le_trans hwsz hgr6.size
    have HNB := Lib.hid hnb
    have HG6 := Lib.hid hgr6
    have HR6 := Lib.hid hown6
    have HBX6 := Lib.hid hbx6
    have HP6 := Lib.hid hp6
    have HC6 := Lib.hid hc6
    clear hnb hgr6 hown6 hbx6 hp6 hc6
    go_wp2_with fail
    refine (free_any tei _ HP6.out).mono ?_
    rw [HHB.out]
    rintro e w7 ⟨rfl, hp7, k7⟩
    have hr7 := own_keep HR6.out (fun q hq => k7.block q (own_lt HR6.out q hq) (by have := (HR6.out.lt q hq).1; simp; omega))
    have HR7 := Lib.hid hr7
    have hws7 : w.heap.size ≤ w7.heap.size := Nat.le_trans hws6 k7.size
    have HP7 := Lib.hid hp7
    have HK7 := Lib.hid k7
    clear hp7 k7 hr7 y0
    go_wp2_with (at_builtin; refine print_append_cells (w0 := w7) w.heap.size rfl _ _ 65 105 (.agg #[.int .i64 0, .int .i64 0, .int .i64 0, .int .i64 0, .int .i64 0]) 5 40 rfl Tryd.underlying65 infoSE rfl (by decide) (by decide) _ 3 (efCells [⟨0, 6, 0, tei, 0⟩, ⟨0, 6, 0, tei, 0⟩] ++ [.int .i64 4, .int .i64 0, .int .i64 0, .int .i64 0, .int .i64 tei]) [.int .i64 2, .int .i64 0, .int .i64 0, .int .i64 0, .int .i64 tei] rfl rfl rfl (by simp [Value.oneCell']) ?d1 ?d2 ?d3 ?d4 ?d5)
    case d1 => exact HR7.out
    case d2 => exact Below.refl _ _
    case d3 => exact hws7
    case d4 => omega
    case d5 =>
      intro v8 w8 hown8 _ hgr8 _
      have hnb8 : ∀ k, k < w.heap.size → w8.heap[k]? = w7.heap[k]? := fun k hk => hgr8.block k (by omega) (fun e => by
        have := (HR7.out.lt k e.symm).1
        omega)
      have HNB8 := Lib.hid hnb8
      have HG8 := Lib.hid hgr8
      have HR8 := Lib.hid hown8
      clear hnb8 hgr8 hown8
      go_wp2
      go_ret
      refine ⟨_, rfl, HR8.out, ⟨?_, ?_, ?_⟩, ?_⟩
      · exact (HNB8.out g hlt.1).trans (HK7.out.at HBX6.out (by simp; omega))
      · exact ⟨(HNB8.out gp hlt.2.1).trans HP7.out.1, HP7.out.2⟩
      · exact (HC6.out.keep HK7.out (by simp; omega)).move (HNB8.out gm hlt.2.2)
      · refine ⟨?_, ?_, ?_, ?_, ?_⟩
        · exact ((HG8.out.os.trans HK7.out.os).trans HG6.out.os).trans (HK5.out.os.trans HB4.out.os)
        · exact ((HG8.out.tape.trans HK7.out.tape).trans HG6.out.tape).trans (HK5.out.tape.trans HB4.out.tape)
        · exact ((HG8.out.output.trans HK7.out.output).trans HG6.out.output).trans (HK5.out.output.trans HB4.out.output)
        · exact Nat.le_trans hws7 HG8.out.size
        · intro k hk hks
          simp at hks
          rw [HNB8.out k hk, HK7.out.block k (by omega) (by simp; omega), HNB.out k hk, HK5.out.block k (Nat.lt_of_lt_of_le hk HB4.out.size) (by simp; omega)]
          exact HB4.out.block k hk
end Go.Proofs.YtlfcfmdblmedcaaDoor.Mine
