/- The contract of TopLine's closure look: the walk. -/
import Derived.Test.YtlfcfmdblmedcaaDoorTReads
import Derived.Test.YtlfcfmdblmedcaaDoorTLook
namespace Go.Proofs.YtlfcfmdblmedcaaDoor.Mine
open Go.RowKit Go.Proofs.YtlfcfmdblmedcaaDoorW.PrintWords
attribute [local go_sem] max_int min_int max_of_two min_of_two

/-- What look looks into: the decoder's variable, the frames', the decoder. -/
structure LookS (w1 : World) (g Bd Bg : Nat) (c : List Int) (was : Bool) (ones N : Int) (got : List FR) (gv v : Value) (w : World) : Prop where
  bd : w.heap[Bd]? = some (.cells #[.pointer (some ⟨g, 0, none⟩)] 40 (0, 0))
  bg : w.heap[Bg]? = some (.cells #[gv] 25 (0, 0))
  row : w.ownsRow (Bg + 1) 32 8 gv got.length (frCells got)
  dec : DecV w g v c was ones
  ok : DecOk c ones N
  bel : Below w1.heap.size w1 w
section
variable {w1 : World} {g Bd Bg : Nat} {c : List Int} {was : Bool} {ones N : Int} {got : List FR} {gv v : Value}
theorem LookS.below {w w' : World} (h : LookS w1 g Bd Bg c was ones N got gv v w) (b : Below w.heap.size w w') : LookS w1 g Bd Bg c was ones N got gv v w' :=
  ⟨(b.block _ (lt_of_at h.bd)).trans h.bd, (b.block _ (lt_of_at h.bg)).trans h.bg, own_keep h.row (fun k hk => b.block k (own_lt h.row k hk)), h.dec.below b, h.ok, h.bel.trans (b.mono h.bel.size)⟩
/-- Behind Feed. -/
theorem LookS.fed {w w' : World} {c' : List Int} {was' : Bool} {ones' N' : Int} {v' : Value} (h : LookS w1 g Bd Bg c was ones N got gv v w) (hg : w1.heap.size ≤ g ∧ g < Bd ∧ Bd < Bg) (d : DecV w' g v' c' was' ones') (k : Only (g :: v.ownBlock.toList) w w') (ok : DecOk c' ones' N') : LookS w1 g Bd Bg c' was' ones' N' got gv v' w' := by
  have n1 := own_ne h.dec.2 h.bd (by decide)
  have n2 := own_ne h.dec.2 h.bg (by decide)
  have hd : Bd ∉ g :: v.ownBlock.toList := by
    simp only [List.mem_cons, Option.mem_toList]
    rintro (q | q)
    · omega
    · exact n1 q
  have hb : Bg ∉ g :: v.ownBlock.toList := by
    simp only [List.mem_cons, Option.mem_toList]
    rintro (q | q)
    · omega
    · exact n2 q
  refine ⟨k.at h.bd hd, k.at h.bg hb, own_keep h.row (fun b hbk => k.block b (own_lt h.row b hbk) ?_), d, ok, h.bel.trans (k.below h.bel.size ?_)⟩
  · have h1 := own_apart h.row h.dec.2 (by decide) b hbk
    have h2 := (h.row.lt b hbk).1
    simp only [List.mem_cons, Option.mem_toList]
    rintro (q | q)
    · omega
    · exact h1 q
  · intro x hx
    simp only [List.mem_cons, Option.mem_toList] at hx
    rcases hx with rfl | hx
    · exact hg.1
    · have := (h.dec.2.lt x hx).1; omega
/-- One frame more. -/
theorem LookS.more {w w4 : World} {v1' : Value} {f : FR} (h : LookS w1 g Bd Bg c was ones N got gv v w) (hg : w1.heap.size ≤ g ∧ g < Bd ∧ Bd < Bg) (ho : w4.ownsRow (Bg + 1) 32 8 v1' (got.length + 1) (frCells got ++ frC f)) (hgr : w.grownBy w4 gv.ownBlock) : LookS w1 g Bd Bg c was ones N (got ++ [f]) v1' v (w4.setCell ⟨Bg, 0, none⟩ v1') := by
  have hrow : ∀ b, gv.ownBlock = some b → Bg + 1 ≤ b := fun b hb => (h.row.lt b hb).1
  have hkeep : ∀ b, b < w.heap.size → b ≤ Bg → w4.heap[b]? = w.heap[b]? := fun b hb hle => hgr.block b hb (fun e => by have := hrow b e.symm; omega)
  have hne := own_ne h.dec.2 h.bg (by decide)
  refine ⟨?_, ?_, ?_, ⟨?_, ?_⟩, h.ok, ?_⟩
  · exact at_far ((hkeep Bd (lt_of_at h.bd) (by omega)).trans h.bd) (by show Bd ≠ Bg; omega) _
  · rw [at_set ((hkeep Bg (lt_of_at h.bg) (Nat.le_refl _)).trans h.bg) 0 _]; rfl
  · rw [List.length_append, frCells_append]
    have e : frCells [f] = frC f := by simp [frCells]
    rw [e]
    refine own_keep ho (fun b hb => Below.heap_setCell _ _ _ b ?_)
    have := (ho.lt b hb).1
    show b ≠ Bg
    omega
  · exact at_far ((hkeep g (lt_of_at h.dec.1) (by omega)).trans h.dec.1) (by show g ≠ Bg; omega) _
  · refine own_keep h.dec.2 (fun b hb => (Below.heap_setCell _ _ _ b ?_).trans (hgr.block b (own_lt h.dec.2 b hb) (fun e => own_apart h.row h.dec.2 (by decide) b e.symm hb)))
    show b ≠ Bg
    intro e
    exact hne (by rw [hb, e])
  · refine Below.setCell ?_ (by show w1.heap.size ≤ Bg; omega) _
    refine ⟨hgr.os.trans h.bel.os, hgr.tape.trans h.bel.tape, hgr.output.trans h.bel.output, Nat.le_trans h.bel.size hgr.size, fun b hb => ?_⟩
    exact (hgr.block b (Nat.lt_of_lt_of_le hb h.bel.size) (fun e => by have := hrow b e.symm; omega)).trans (h.bel.block b hb)
end

theorem goods_length : ∀ l : List (Int × List Int), (goods l).length ≤ l.length
  | [] => by simp [goods]
  | e :: l => by
    have h := goods_length l
    unfold goods
    split
    · simp; omega
    · simp; omega
theorem own_at {w : World} {B : Nat} {e : TypeId} {s n cp r : Nat} {xs : List Value} (h : w.ownsRow B e s (.slice (some ⟨r, 0, none⟩) n cp) n xs) (i : Nat) (v : Value) (hi : xs[i]? = some v) : w.cell? ⟨r, i, none⟩ = some v := by
  have h1 := h.cells (g := r) rfl i v hi
  have ha : (⟨r, 0, none⟩ : Addr).add i = ⟨r, i, none⟩ := by
    unfold Addr.add
    split
    · rename_i q; subst q; rfl
    · simp
  rwa [ha] at h1
set_option maxHeartbeats 2000000 in
set_option maxRecDepth 100000 in
theorem look_any {w1 w : World} {g Bd Bg : Nat} {c : List Int} {was : Bool} {ones N : Int} {got : List FR} {gv v : Value} (b : ByteArray) (h : LookS w1 g Bd Bg c was ones N got gv v w) (hT : Tabs w1) (hg : 1 < w1.heap.size ∧ w1.heap.size ≤ g ∧ g < Bd ∧ Bd < Bg) (hb : IsBits (bytesOf b)) (hs : b.size ≤ 1000000) (hn : 0 ≤ N ∧ N ≤ 10000000) (hgl : got.length ≤ 1000000) :
    Calls Tryd.prog 13 #[.string b, .pointer (some ⟨Bd, 0, none⟩), .pointer (some ⟨Bg, 0, none⟩)] w fun e w' => e = .returned (.tuple #[]) ∧ ∃ gv' v', LookS w1 g Bd Bg (feedP c was ones (bytesOf b)).2.1 (feedP c was ones (bytesOf b)).2.2.1 (feedP c was ones (bytesOf b)).2.2.2 (N + b.size) (got ++ goods (feedP c was ones (bytesOf b)).1) gv' v' w' := by
  have hfeed := feed_any (N := N) b h.dec h.ok (by omega) (by omega) hb
  have hok := feedP_ok (bytesOf b) hb c was ones N hn.1 h.ok
  have hev := feedP_event (bytesOf b) hb c was ones N hn.1 h.ok
  have hcount := feedP_count (bytesOf b) c was ones
  rw [bytesOf_length] at hok hcount
  obtain ⟨⟨evs, c', was', ones'⟩, hF⟩ : ∃ F, feedP c was ones (bytesOf b) = F := ⟨_, rfl⟩
  rw [hF] at hfeed hok hev hcount ⊢
  dsimp only at hfeed hok hev hcount ⊢
  have hbd := at_cell h.bd 0
  simp at hbd
  have HFE := Lib.hid hfeed
  have HOK := Lib.hid hok
  have HEV := Lib.hid hev
  have HC := Lib.hid hcount
  have HH := Lib.hid h
  have HT := Lib.hid hT
  have HG := Lib.hid hg
  clear hfeed hok hev hcount h hT hg hF hb
  go_enter Tryd.func13, Tryd.ntmps13
  go_wp2_with fail
  refine HFE.out.mono ?_
  rintro e w2 ⟨ov, v2, rfl, o2, d2, k2, -⟩
  have hl2 := HH.out.fed (v' := v2) HG.out.2 d2 k2 HOK.out
  have HL2 := Lib.hid hl2
  have HO2 := Lib.hid o2
  have hwl := k2.size
  clear hl2 d2 k2
  dsimp only at o2
  obtain ⟨A, cp, rfl⟩ := own_slice o2
  dsimp only at HL2 HO2
  clear o2
  go_wp2_with fail
  go_loopw [12] (fun i wr => ∃ (k : Nat) (gv' v' : Value), i = .int .i64 k ∧ k ≤ evs.length ∧ LookS w1 g Bd Bg c' was' ones' (N + b.size) (got ++ goods (evs.take k)) gv' v' wr ∧ wr.ownsRow w.heap.size 45 2 (.slice A evs.length cp) evs.length (evCells evs) ∧ w.heap.size ≤ wr.heap.size) (fun i _ => evs.length - (intOf i).toNat)
  case atStart => exact ⟨0, gv, v2, rfl, Nat.zero_le _, by simpa [goods] using HL2.out, HO2.out, hwl⟩
  case round =>
    obtain ⟨k, gv', v', rfl, hk, hl, ho, hwr⟩ := hrel
    have hel : evs.length ≤ 1000000 := Nat.le_trans HC.out hs
    by_cases hlt : k < evs.length
    · obtain ⟨⟨kd, oc⟩, hek⟩ : ∃ e, evs[k]? = some e := ⟨evs[k], List.getElem?_eq_getElem hlt⟩
      obtain ⟨q0, q1⟩ := evCells_get evs k _ hek
      obtain ⟨x1, x2⟩ := HEV.out _ (List.mem_of_getElem? hek)
      rcases ho.2 with ⟨-, h0⟩ | ⟨r, cap, cur, hr0, hr⟩
      · omega
      injection hr0 with hr0 _ hr1
      subst hr0 hr1
      have e0 := own_at ho (k * 2) _ (by rw [Nat.mul_comm]; exact q0)
      have e1 := own_at ho (k * 2 + 1) _ (by rw [Nat.mul_comm]; exact q1)
      have hT2 := HT.out.belowB hl.bel HG.out.1
      have hbs := bytesOf_str oc x1
      have hsz : (strOfNums oc).size ≤ 300 := by rw [strOfNums_size]; exact x2
      obtain ⟨y, hy⟩ : ∃ y, strOfNums oc = y := ⟨_, rfl⟩
      rw [hy] at e1 hbs hsz
      have hget := fun W hW => frameget_any y W (by omega) hW
      rw [hbs] at hget
      have hgo : goods (evs.take (k + 1)) = goods (evs.take k) ++ (if kd = 0 ∧ (frameF oc).err = 0 then [frameF oc] else []) := by
        have e : evs.take (k + 1) = evs.take k ++ [(kd, oc)] := by
          rw [List.take_add_one, hek]; rfl
        rw [e, goods_append]
        congr 1
      obtain ⟨F, hF⟩ : ∃ F, frameF oc = F := ⟨_, rfl⟩
      rw [hF] at hget hgo
      have hgl2 : (goods (evs.take k)).length ≤ 1000000 := by
        have h1 := goods_length (evs.take k)
        have h2 := HC.out
        rw [List.length_take] at h1
        omega
      have HGET := Lib.hid hget
      have HGO := Lib.hid hgo
      -- the event's box
      have hlb := hl.below ((Below.refl _ _).alloc (Nat.le_refl _) (.cells #[.int .i64 kd, .string y] 45))
      have hob := ho.alloc (o := .cells #[.int .i64 kd, .string y] 45)
      have hTb := hT2.below ((Below.refl _ _).alloc (Nat.le_refl _) (.cells #[.int .i64 kd, .string y] 45))
      have HLB := Lib.hid hlb
      have HOB := Lib.hid hob
      have HTB := Lib.hid hTb
      have HEB := Lib.hid (at_new wr (.cells #[.int .i64 kd, .string y] 45))
      clear hl ho hT2 hbs hsz hget hgo hF hlb hob hTb hr q0 q1 x1 x2 hy hek
      go_wp2_with fail
      refine (HGET.out _ HTB.out).mono ?_
      rintro e w3 ⟨rfl, b3⟩
      have HL3 := Lib.hid (HLB.out.below b3)
      have HO3 := Lib.hid (own_keep HOB.out (fun q hq => b3.block q (own_lt HOB.out q hq)))
      have hx3 := (b3.block _ (lt_of_at HEB.out)).trans HEB.out
      have y0 := at_cell hx3 0
      simp at y0
      have hw3 : w.heap.size ≤ w3.heap.size := Nat.le_trans hwr (Nat.le_trans (by simp) b3.size)
      have hw4 : wr.heap.size < w3.heap.size := Nat.lt_of_lt_of_le (by simp) b3.size
      have hLF := HL3.out.below ((Below.refl _ _).alloc (Nat.le_refl _) (.cells (frC F).toArray 32))
      have hOF := HO3.out.alloc (o := .cells (frC F).toArray 32)
      have HLF := Lib.hid hLF
      have HOF := Lib.hid hOF
      have g0 := at_cell HL3.out.bg 0
      have g1 := at_frozen HL3.out.bg 0
      have gl := lt_of_at HL3.out.bg
      simp at g0
      clear b3 hx3 e0 e1 hLF hOF
      by_cases hk0 : kd = 0
      · subst hk0
        by_cases her : F.err = 0
        · have hG : goods (evs.take (k + 1)) = goods (evs.take k) ++ [F] := by rw [HGO.out]; simp [her]
          have HG2 := Lib.hid hG
          clear hG
          have hbd4 : (got ++ goods (evs.take k)).length ≤ 2000000 := by rw [List.length_append]; omega
          go_wp2_with (at_builtin; refine print_append_cells (w0 := w3.alloc (.cells (frC F).toArray 32)) (Bg + 1) rfl _ _ 25 32 (.agg #[.int .i64 0, .int .i64 0, .bool false, .int .i64 0, .bool false, .int .i64 0, .int .i64 0, .string ⟨#[]⟩]) 8 72 rfl Tryd.underlying25 infoFr rfl (by decide) (by decide) _ (got ++ goods (evs.take k)).length (frCells (got ++ goods (evs.take k))) (frC F) rfl (by rw [World.size_alloc]; rfl) rfl (by simp [frC, Value.oneCell']) ?c1 ?c2 ?c3 ?c4 ?c5)
          case c1 => exact HLF.out.row
          case c2 => exact Below.refl _ _
          case c3 => simp; omega
          case c4 => omega
          case c5 =>
            intro va w5 hown _ hgr _
            rw [← List.length_append] at hown
            obtain ⟨A5, cp5, rfl⟩ := own_slice hown
            have hlm := HLF.out.more HG.out.2 hown hgr
            have hom : w5.ownsRow w.heap.size 45 2 (.slice (some ⟨r, 0, none⟩) evs.length cp) evs.length (evCells evs) := own_keep HOF.out (fun q hq => hgr.block q (own_lt HOF.out q hq) (fun e => own_apart HLF.out.row HOF.out (by decide) q e.symm hq))
            have hsz5 := hgr.size
            have hbg5 : w5.cell? ⟨Bg, 0, none⟩ = some gv' := by
              have hx := (hgr.block Bg (lt_of_at HLF.out.bg) (fun e => by have := (HLF.out.row.lt Bg e.symm).1; omega)).trans HLF.out.bg
              have := at_cell hx 0
              simpa using this
            have hfz5 : w5.frozen? ⟨Bg, 0, none⟩ = false := by
              have hx := (hgr.block Bg (lt_of_at HLF.out.bg) (fun e => by have := (HLF.out.row.lt Bg e.symm).1; omega)).trans HLF.out.bg
              exact at_frozen hx 0
            obtain ⟨nn, hnn⟩ : ∃ nn, (got ++ goods (evs.take k)).length + 1 = nn := ⟨_, rfl⟩
            rw [hnn] at hlm ⊢
            have HLM := Lib.hid hlm
            have HOM := Lib.hid hom
            clear hlm hom hown hgr hnn
            go_wp2
            go_roundw
            case rel =>
              refine ⟨k + 1, .slice A5 nn cp5, v', by go_num, by omega, ?_, ?_, ?_⟩
              · rw [HG2.out, ← List.append_assoc]; exact HLM.out
              · refine own_keep HOM.out (fun q hq => Below.heap_setCell _ _ _ q ?_)
                have h1 := (HOM.out.lt q hq).1
                have h2 := lt_of_at HH.out.bg
                show q ≠ Bg
                omega
              · simp at hsz5 ⊢; omega
            case measure => simp [intOf]; omega
        · have q : (F.err == 0) = false := by simpa using her
          have hG : goods (evs.take (k + 1)) = goods (evs.take k) := by rw [HGO.out]; simp [her]
          have HG2 := Lib.hid hG
          clear hG her
          go_wp2
          go_roundw
          case rel => exact ⟨k + 1, gv', v', by go_num, by omega, by rw [HG2.out]; exact HLF.out, HOF.out, by simp; omega⟩
          case measure => simp [intOf]; omega
      · have q : (kd == 0) = false := by simpa using hk0
        have hG : goods (evs.take (k + 1)) = goods (evs.take k) := by rw [HGO.out]; simp [hk0]
        have HG2 := Lib.hid hG
        clear hG hk0
        go_wp2
        go_roundw
        case rel => exact ⟨k + 1, gv', v', by go_num, by omega, by rw [HG2.out]; exact HLF.out, HOF.out, by simp; omega⟩
        case measure => simp [intOf]; omega
    · obtain rfl : k = evs.length := by omega
      rw [List.take_length] at hl
      have HL := Lib.hid hl
      clear hl ho
      go_wp2
      go_end0
      exact ⟨rfl, _, _, HL.out⟩
end Go.Proofs.YtlfcfmdblmedcaaDoor.Mine
