/- The contract of the decoder's Feed, at bits; of hdlc.New. -/
import Derived.Test.YtlfcfmdblmedcaaGreatDoorTBit
import Derived.Deep.CutBlock
import Derived.Deep.DeepCutAuto
namespace Go.Proofs.YtlfcfmdblmedcaaGreatDoor.Mine
open Go.RowKit Go.Proofs.YtlfcfmdblmedcaaGreatDoorW.PrintWords
attribute [local go_sem] max_int min_int max_of_two min_of_two

/-- What a decoder makes of bits. -/
def feedP : List Int → Bool → Int → List Int → List (Int × List Int) × (List Int × Bool × Int)
  | c, was, ones, [] => ([], (c, was, ones))
  | c, was, ones, x :: l => ((bitP c was ones x).1.toList ++ (feedP (bitP c was ones x).2.1 (bitP c was ones x).2.2.1 (bitP c was ones x).2.2.2 l).1, (feedP (bitP c was ones x).2.1 (bitP c was ones x).2.2.1 (bitP c was ones x).2.2.2 l).2)
/-- What is true of a decoder that was fed with bits alone. -/
def DecOk (c : List Int) (ones : Int) (N : Int) : Prop := IsBits c ∧ c.length ≤ 2135 ∧ 0 ≤ ones ∧ ones ≤ N
theorem bitP_ok {c : List Int} {was : Bool} {ones x N : Int} (h : DecOk c ones N) (hx : x = 48 ∨ x = 49) (hN : 0 ≤ N) : DecOk (bitP c was ones x).2.1 (bitP c was ones x).2.2.2 (N + 1) := by
  obtain ⟨h1, h2, h3, h4⟩ := h
  have happ : IsBits (c ++ [x]) := by
    intro y hy
    simp at hy
    rcases hy with hy | rfl
    · exact h1 y hy
    · exact hx
  have hnil : IsBits [] := fun y hy => by simp at hy
  unfold bitP
  split
  · split
    · exact ⟨hnil, by simp, by simp; omega, by simp; omega⟩
    · refine ⟨?_, ?_, by simp; omega, by simp; omega⟩
      · simp only; split
        · exact happ
        · exact h1
      · simp only; split
        · rename_i q; simp; omega
        · exact h2
  · split
    · split
      · exact ⟨hnil, by simp, by simp, by simp; omega⟩
      · exact ⟨h1, h2, by simp, by simp; omega⟩
    · refine ⟨?_, ?_, by simp, by simp; omega⟩
      · simp only; split
        · exact happ
        · exact h1
      · simp only; split
        · rename_i q; simp; omega
        · exact h2

def evCells : List (Int × List Int) → List Value
  | [] => []
  | e :: l => [.int .i64 e.1, .string (strOfNums e.2)] ++ evCells l
theorem evCells_append (a b : List (Int × List Int)) : evCells (a ++ b) = evCells a ++ evCells b := by
  induction a with
  | nil => rfl
  | cons x a ih => show _ ++ evCells (a ++ b) = (_ ++ evCells a) ++ evCells b; rw [ih, List.append_assoc]
theorem infoEv : (Tryz.prog.info? 93).map (fun i => (i.zero, i.size, i.bytes)) = some (some (.agg #[.int .i64 0, .string ⟨#[]⟩]), 2, 24) := by kernel_rfl

/-- Rows of two kinds lie in two blocks. -/
theorem own_apart {w : World} {B B' : Nat} {e e' : TypeId} {s s' n n' : Nat} {v v' : Value} {xs xs' : List Value} (h : w.ownsRow B e s v n xs) (h' : w.ownsRow B' e' s' v' n' xs') (hne : e ≠ e') : ∀ b, v.ownBlock = some b → v'.ownBlock ≠ some b := by
  intro b hb hb'
  rcases h.2 with ⟨rfl, -⟩ | ⟨g, cap, cur, rfl, -, hg, -⟩
  · simp [Value.ownBlock] at hb
  · rcases h'.2 with ⟨rfl, -⟩ | ⟨g', cap', cur', rfl, -, hg', -⟩
    · simp [Value.ownBlock] at hb'
    · simp [Value.ownBlock] at hb hb'
      subst hb hb'
      rw [hg] at hg'
      injection hg' with hg'
      injection hg' with _ hg' _
      exact hne hg'
theorem own_keep {w w' : World} {B : Nat} {e : TypeId} {s n : Nat} {v : Value} {xs : List Value} (h : w.ownsRow B e s v n xs) (hk : ∀ b, v.ownBlock = some b → w'.heap[b]? = w.heap[b]?) : w'.ownsRow B e s v n xs := by
  refine ⟨h.1, h.2.imp id ?_⟩
  rintro ⟨g', cap, cur, b1, b2, b3, b4⟩
  exact ⟨g', cap, cur, b1, b2, (hk g' (by rw [b1]; rfl)).trans b3, b4⟩
theorem own_lt {w : World} {B : Nat} {e : TypeId} {s n : Nat} {v : Value} {xs : List Value} (h : w.ownsRow B e s v n xs) : ∀ b, v.ownBlock = some b → b < w.heap.size := fun b hb => (h.lt b hb).2

def FeedPost (w : World) (g : Nat) (v0 : Value) (d : List (Int × List Int) × (List Int × Bool × Int)) (e : Ending) (w' : World) : Prop :=
  ∃ ov v', e = .returned ov ∧ w'.ownsRow w.heap.size 93 2 ov d.1.length (evCells d.1) ∧ DecV w' g v' d.2.1 d.2.2.1 d.2.2.2 ∧ Only (g :: v0.ownBlock.toList) w w' ∧ ∀ b, v'.ownBlock = some b → v0.ownBlock = some b ∨ w.heap.size ≤ b
def FeedInv (w : World) (g : Nat) (v0 : Value) (s : ByteArray) (N : Int) (F : List (Int × List Int) × (List Int × Bool × Int)) (i ov : Value) (wr : World) : Prop :=
  ∃ (k : Nat) (v : Value) (c : List Int) (was : Bool) (ones : Int) (evs : List (Int × List Int)), i = .int .i64 k ∧ k ≤ s.size ∧ DecV wr g v c was ones ∧ DecOk c ones (N + k) ∧ wr.ownsRow w.heap.size 93 2 ov evs.length (evCells evs) ∧ evs.length ≤ k ∧
    (evs ++ (feedP c was ones ((bytesOf s).drop k)).1, (feedP c was ones ((bytesOf s).drop k)).2) = F ∧ Only (g :: v0.ownBlock.toList) w wr ∧ ∀ b, v.ownBlock = some b → v0.ownBlock = some b ∨ w.heap.size ≤ b

set_option maxHeartbeats 2000000 in
set_option maxRecDepth 100000 in
theorem feed_any {w : World} {g : Nat} {v0 : Value} {c0 : List Int} {was0 : Bool} {ones0 N : Int} (s : ByteArray) (h : DecV w g v0 c0 was0 ones0) (hok : DecOk c0 ones0 N) (hN : 0 ≤ N ∧ N ≤ 100000000) (hs : s.size ≤ 100000000) (hb : IsBits (bytesOf s)) :
    Calls Tryz.prog 29 #[.pointer (some ⟨g, 0, none⟩), .string s] w (FeedPost w g v0 (feedP c0 was0 ones0 (bytesOf s))) := by
  obtain ⟨F, hF⟩ : ∃ F, feedP c0 was0 ones0 (bytesOf s) = F := ⟨_, rfl⟩
  rw [hF]
  have hI0 : FeedInv w g v0 s N F (.int .i64 0) (.slice none 0 0) w :=
    ⟨0, v0, c0, was0, ones0, [], rfl, Nat.zero_le _, h, by simpa using hok, own_nil _ _ _ _, by simp, by simpa using hF, Only.refl _ _, fun b hb => Or.inl hb⟩
  have HI0 := Lib.hid hI0
  have HB := Lib.hid hb
  have hgl := lt_of_at h.1
  have HV0 := Lib.hid h.2.lt
  clear hF hI0 h hok hb
  go_enter Tryz.func29, Tryz.ntmps29
  go_wp2_with fail
  go_loopw [13, 5] (fun i o wr => FeedInv w g v0 s N F i o wr) (fun i _ _ => s.size - (intOf i).toNat)
  case atStart => exact HI0.out
  case round =>
    clear HI0
    obtain ⟨k, v, c, was, ones, evs, rfl, hk, hd, hok, ho, hle, hfe, hon, hvb⟩ := hrel
    by_cases hlt : k < s.size
    · have hx := bt_nat s k
      have hdr := bytes_drop s k hlt
      obtain ⟨x, hxx⟩ : ∃ x, bt s k = x := ⟨_, rfl⟩
      have hx1 : x = 48 ∨ x = 49 := by
        apply HB.out
        have : x ∈ (bytesOf s).drop k := by rw [hdr, hxx]; simp
        exact List.mem_of_mem_drop this
      rw [hxx] at hx hdr
      rw [hdr] at hfe
      have hor : bits .or .u8 x 1 = 49 := by rcases hx1 with rfl | rfl <;> decide
      obtain ⟨A, cp, rfl⟩ := own_slice ho
      have HD := Lib.hid hd
      have HOK := Lib.hid hok
      have HO := Lib.hid ho
      have HFE := Lib.hid hfe
      have HON := Lib.hid hon
      have HVB := Lib.hid hvb
      have HX1 := Lib.hid hx1
      clear hd hok ho hfe hon hvb hdr hxx hx1
      go_wp2_with fail
      refine (bit_any x HD.out HOK.out.1 HOK.out.2.1 HOK.out.2.2.1 (by have := HOK.out.2.2.2; omega) HX1.out).mono ?_
      rintro e w2 ⟨rfl, v2, d2, k2, o2⟩
      have hok2 := bitP_ok (was := was) HOK.out HX1.out (by omega)
      have hfe2 := HFE.out
      unfold feedP at hfe2
      -- the events' row behind the bit
      have hrow : w2.ownsRow w.heap.size 93 2 (.slice A evs.length cp) evs.length (evCells evs) := own_keep HO.out (fun b hb => k2.block b (own_lt HO.out b hb) (by
        have h1 := own_apart HO.out HD.out.2 (by decide) b hb
        have h2 := (HO.out.lt b hb).1
        simp only [List.mem_cons, Option.mem_toList]
        rintro (rfl | h)
        · omega
        · exact h1 h))
      have hon2 : Only (g :: v0.ownBlock.toList) w w2 := HON.out.then k2 (by
        intro b hb
        simp only [List.mem_cons, Option.mem_toList] at hb ⊢
        rcases hb with rfl | hb
        · exact Or.inl (Or.inl rfl)
        · exact (HVB.out b hb).imp Or.inr id)
      have hvb2 : ∀ b, v2.ownBlock = some b → v0.ownBlock = some b ∨ w.heap.size ≤ b := by
        intro b hb
        rcases o2 b hb with h | h
        · exact HVB.out b h
        · exact Or.inr (Nat.le_trans HON.out.size h)
      have hsz2 : w.heap.size ≤ w2.heap.size := hon2.size
      obtain ⟨⟨ev, c2, was2, ones2⟩, hbp⟩ : ∃ bp, bitP c was ones x = bp := ⟨_, rfl⟩
      rw [hbp] at d2 hok2 hfe2 ⊢
      dsimp only at d2 hok2 hfe2 ⊢
      rcases ev with _ | ⟨kd, oc⟩
      · have hI : FeedInv w g v0 s N F (.int .i64 ((k : Int) + 1)) (.slice A evs.length cp) (w2.alloc (.cells #[.int .i64 0, .string (strOfNums [])] 93)) :=
          ⟨k + 1, v2, c2, was2, ones2, evs, by go_num, by omega, d2.below ((Below.refl _ _).alloc (Nat.le_refl _) _), by rw [show N + ((k + 1 : Nat) : Int) = N + (k : Int) + 1 by omega]; exact hok2, hrow.alloc _, by omega, by simpa using hfe2, hon2.alloc _, hvb2⟩
        have HI := Lib.hid hI
        clear hI d2 hok2 hfe2 hrow hon2 hvb2 hbp k2 o2
        unfold evV
        go_wp2
        go_roundw
        case rel => exact HI.out
        case measure => simp [intOf]; omega
      · have hd3 := d2.below ((Below.refl _ _).alloc (Nat.le_refl _) (.cells #[.int .i64 kd, .string (strOfNums oc)] 93))
        have hr3 := hrow.alloc (o := .cells #[.int .i64 kd, .string (strOfNums oc)] 93)
        have hn3 := hon2.alloc (.cells #[.int .i64 kd, .string (strOfNums oc)] 93)
        have HD3 := Lib.hid hd3
        have HR3 := Lib.hid hr3
        have HN3 := Lib.hid hn3
        have HOK2 := Lib.hid hok2
        have HFE2 := Lib.hid hfe2
        have HVB2 := Lib.hid hvb2
        clear hd3 hr3 hn3 d2 hok2 hfe2 hrow hon2 hvb2 hbp k2 o2
        unfold evV
        simp only
        obtain ⟨y, hy⟩ : ∃ y, strOfNums oc = y := ⟨_, rfl⟩
        rw [hy] at HD3 HR3 HN3 ⊢
        have HY := Lib.hid hy
        clear hy
        go_wp2_with (at_builtin; refine print_append_cells (w0 := w2.alloc (.cells #[.int .i64 kd, .string y] 93)) w.heap.size rfl _ _ 84 93 (.agg #[.int .i64 0, .string ⟨#[]⟩]) 2 24 rfl Tryz.underlying84 infoEv rfl (by decide) (by decide) _ evs.length (evCells evs) [.int .i64 kd, .string y] rfl (by rw [World.size_alloc]; rfl) rfl (by simp [Value.oneCell']) ?c1 ?c2 ?c3 ?c4 ?c5)
        case c1 => exact HR3.out
        case c2 => exact Below.refl _ _
        case c3 => simp; omega
        case c4 => omega
        case c5 =>
          intro v1 w1 hown _ hgr hat
          obtain ⟨A1, cp1, rfl⟩ := own_slice hown
          have hI : FeedInv w g v0 s N F (.int .i64 ((k : Int) + 1)) (.slice A1 (evs.length + 1) cp1) w1 := by
            refine ⟨k + 1, v2, c2, was2, ones2, evs ++ [(kd, oc)], by go_num, by omega, ⟨?_, ?_⟩, ?_, ?_, by simp; omega, ?_, ?_, HVB2.out⟩
            · exact (hgr.block g (lt_of_at HD3.out.1) (fun e => by have := (HR3.out.lt g e.symm).1; omega)).trans HD3.out.1
            · exact own_keep HD3.out.2 (fun b hb => hgr.block b (own_lt HD3.out.2 b hb) (fun e => own_apart HR3.out HD3.out.2 (by decide) b e.symm hb))
            · rw [show N + ((k + 1 : Nat) : Int) = N + (k : Int) + 1 by omega]; exact HOK2.out
            · rw [evCells_append, List.length_append]
              show w1.ownsRow _ _ _ _ _ (evCells evs ++ ([.int .i64 kd, .string (strOfNums oc)] ++ []))
              rw [HY.out]
              simpa using hown
            · simpa using HFE2.out
            · refine ⟨hgr.os.trans HN3.out.os, hgr.tape.trans HN3.out.tape, hgr.output.trans HN3.out.output, Nat.le_trans HN3.out.size hgr.size, fun i hi hs => ?_⟩
              exact (hgr.block i (Nat.lt_of_lt_of_le hi HN3.out.size) (fun e => by have := (HR3.out.lt i e.symm).1; omega)).trans (HN3.out.block i hi hs)
          have HI := Lib.hid hI
          clear hI hown hgr hat
          go_wp2
          go_roundw
          case rel => exact HI.out
          case measure => simp [intOf]; omega
    · obtain rfl : k = s.size := by omega
      rw [bytes_end] at hfe
      have hfe2 : (evs, (c, was, ones)) = F := by simpa [feedP] using hfe
      subst hfe2
      go_wp2
      go_ret
      exact ⟨_, _, rfl, ho, hd, hon, hvb⟩

theorem newdec_any (w : World) :
    Calls Tryz.prog 28 #[] w fun e w' => e = .returned (.pointer (some ⟨w.heap.size, 0, none⟩)) ∧ DecV w' w.heap.size (.slice none 0 0) [] false 0 ∧ Below w.heap.size w w' := by
  go_enter Tryz.func28, Tryz.ntmps28
  go_wp2
  go_ret
  exact ⟨rfl, ⟨at_new _ _, own_nil _ _ _ _⟩, (Below.refl _ _).alloc (Nat.le_refl _) _⟩
end Go.Proofs.YtlfcfmdblmedcaaGreatDoor.Mine
