/- The contract of the decoder's bit. Written by bitgen.py. -/
import Derived.Test.YtlfcfmdblmedcaaGreatDoorTFlag
namespace Go.Proofs.YtlfcfmdblmedcaaGreatDoor.Mine
open Go.RowKit Go.Proofs.YtlfcfmdblmedcaaGreatDoorW.PrintWords
attribute [local go_sem] max_int min_int max_of_two min_of_two

/-- One bit more: what it makes of a decoder. -/
def bitP (c : List Int) (was : Bool) (ones x : Int) : Option (Int × List Int) × (List Int × Bool × Int) :=
  if x = 49 then
    if ones + 1 = 7 ∧ was = true then (some (1, []), ([], false, ones + 1))
    else (none, (if was = true ∧ ones + 1 ≤ 5 ∧ c.length ≤ 2134 then c ++ [x] else c, was, ones + 1))
  else if 5 ≤ ones then
    if ones = 6 then (flagP c was, ([], true, 0)) else (none, (c, was, 0))
  else (none, (if was = true ∧ c.length ≤ 2134 then c ++ [x] else c, was, 0))
def BitPost (w : World) (g : Nat) (v : Value) (d : Option (Int × List Int) × (List Int × Bool × Int)) (e : Ending) (w' : World) : Prop :=
  e = .returned (evV d.1) ∧ ∃ v', DecV w' g v' d.2.1 d.2.2.1 d.2.2.2 ∧ Only (g :: v.ownBlock.toList) w w' ∧ ∀ b, v'.ownBlock = some b → v.ownBlock = some b ∨ w.heap.size ≤ b

theorem infoU8 : (Tryz.prog.info? 5).map (fun i => (i.zero, i.size, i.bytes)) = some (some (.int .u8 0), 1, 1) := by kernel_rfl
section
variable {w : World} {g : Nat} {v : Value} {c : List Int} {was : Bool} {ones : Int}
theorem DecV.count (h : DecV w g v c was ones) (o : Int) : DecV (w.setCell ⟨g, 2, none⟩ (.int .i64 o)) g v c was o :=
  ⟨by rw [at_set h.1 2 _]; rfl, ownsRow_setCell_below h.2 (by show g < g + 1; omega) _⟩
theorem setg_size (w : World) (a : Addr) (x : Value) : (w.setCell a x).heap.size = w.heap.size := by simp [World.setCell]
theorem Only.front {S : List Nat} {a b : World} (k : Only [g] a b) : Only (g :: S) a b := k.mono (by simp)

/-- Behind the content's append. -/
theorem DecV.grow {w w1 : World} {v1 : Value} {o x : Int} {a b : Value} (h : DecV w g v c was ones)
    (ho : w1.ownsRow (g + 1) 5 1 v1 (c.length + 1) (nums .u8 (c ++ [x])))
    (hg : ((w.setCell ⟨g, 2, none⟩ (.int .i64 o)).alloc (.cells #[a, b] 93)).grownBy w1 v.ownBlock)
    (hv : v1.ownBlock = v.ownBlock ∨ ∃ k, v1.ownBlock = some k ∧ w.heap.size + 1 ≤ k) :
    w1.heap[g]? = some (.cells #[v, .bool was, .int .i64 o] 123 (0, 0)) ∧ w1.heap[w.heap.size]? = some (.cells #[a, b] 93 (0, 0)) ∧
      (∀ y z, DecV (((w1.setCell ⟨g, 0, none⟩ v1).setCell ⟨w.heap.size, 0, none⟩ y).setCell ⟨w.heap.size, 1, none⟩ z) g v1 (c ++ [x]) was o ∧
        Only (g :: v.ownBlock.toList) w (((w1.setCell ⟨g, 0, none⟩ v1).setCell ⟨w.heap.size, 0, none⟩ y).setCell ⟨w.heap.size, 1, none⟩ z)) := by
  have hgl := lt_of_at h.1
  have hvl : ∀ k, v.ownBlock = some k → g + 1 ≤ k ∧ k < w.heap.size := h.2.lt
  have hsz : ((w.setCell ⟨g, 2, none⟩ (.int .i64 o)).alloc (.cells #[a, b] 93)).heap.size = w.heap.size + 1 := by rw [World.size_alloc, setg_size]
  have e1 : w1.heap[g]? = some (.cells #[v, .bool was, .int .i64 o] 123 (0, 0)) := by
    rw [hg.block g (by omega) (fun e => by have := hvl g e.symm; omega)]
    exact at_alloc (h.count o).1 _
  have e2 : w1.heap[w.heap.size]? = some (.cells #[a, b] 93 (0, 0)) := by
    rw [hg.block _ (by omega) (fun e => by have := hvl _ e.symm; omega)]
    have := at_new (w.setCell ⟨g, 2, none⟩ (.int .i64 o)) (.cells #[a, b] 93)
    rwa [setg_size] at this
  refine ⟨e1, e2, fun y z => ⟨⟨?_, ?_⟩, ?_⟩⟩
  · refine at_far (at_far (by rw [at_set e1 0 _]; rfl) ?_ _) ?_ _
    · show g ≠ w.heap.size; omega
    · show g ≠ w.heap.size; omega
  · have k1 : v1.ownBlock ≠ some w.heap.size := by
      rcases hv with hv | ⟨k, hv, hk⟩
      · rw [hv]; intro e; have := hvl _ e; omega
      · rw [hv]; intro e; injection e with e; omega
    rw [List.length_append]
    exact ownsRow_setCell_other (ownsRow_setCell_other (ownsRow_setCell_below ho (by show g < g + 1; omega) _) (by exact k1) _) (by exact k1) _
  · have k0 : Only (g :: v.ownBlock.toList) w ((w.setCell ⟨g, 2, none⟩ (.int .i64 o)).alloc (.cells #[a, b] 93)) := ((Only.refl _ _).setCell (Or.inl (by simp)) _).alloc _
    have k1 : Only (g :: v.ownBlock.toList) w w1 := by
      refine ⟨hg.os.trans k0.os, hg.tape.trans k0.tape, hg.output.trans k0.output, Nat.le_trans k0.size hg.size, fun i hi hs => ?_⟩
      rw [hg.block i (by omega) (fun e => hs (by rw [← e]; simp))]
      exact k0.block i hi hs
    exact ((k1.setCell (Or.inl (by simp)) _).setCell (Or.inr (by simp)) _).setCell (Or.inr (by simp)) _

set_option maxHeartbeats 1000000 in
set_option maxRecDepth 100000 in
theorem bit_abort (h : DecV w g v c true 6)  :
    Calls Tryz.prog 58 #[.pointer (some ⟨g, 0, none⟩), .int .u8 49] w (BitPost w g v (bitP c true 6 49)) := by
  have e : bitP c true 6 49 = (some (1, []), ([], false, 7)) := by rfl
  have E := Lib.hid e
  obtain ⟨A, cp, rfl⟩ := own_slice h.2
  have c0 := at_cell h.1 0
  have c1 := at_cell h.1 1
  have c2 := at_cell h.1 2
  have f0 := at_frozen h.1 0
  have f1 := at_frozen h.1 1
  have f2 := at_frozen h.1 2
  simp at c0 c1 c2
  have hgl := lt_of_at h.1
  clear e
  have hD := ((h.count 7).reset false).below ((Below.refl _ _).alloc (Nat.le_refl _) (.cells #[.int .i64 1, .string ⟨#[]⟩] 93))
  have hK : Only (g :: (Value.slice A c.length cp).ownBlock.toList) w ((((w.setCell ⟨g, 2, none⟩ (.int .i64 7)).setCell ⟨g, 0, none⟩ (.slice none 0 0)).setCell ⟨g, 1, none⟩ (.bool false)).alloc (.cells #[.int .i64 1, .string ⟨#[]⟩] 93)) := ((((Only.refl _ _).setCell (Or.inl (by simp)) _).setCell (Or.inl (by simp)) _).setCell (Or.inl (by simp)) _).alloc _
  have hb := at_new (((w.setCell ⟨g, 2, none⟩ (.int .i64 7)).setCell ⟨g, 0, none⟩ (.slice none 0 0)).setCell ⟨g, 1, none⟩ (.bool false)) (.cells #[.int .i64 1, .string ⟨#[]⟩] 93)
  rw [show (((w.setCell ⟨g, 2, none⟩ (.int .i64 7)).setCell ⟨g, 0, none⟩ (.slice none 0 0)).setCell ⟨g, 1, none⟩ (.bool false)).heap.size = w.heap.size by simp [World.setCell]] at hb
  have HD := Lib.hid hD
  have HK := Lib.hid hK
  have HB := Lib.hid hb
  clear h hD hK hb
  go_enter Tryz.func58, Tryz.ntmps58
  go_wp2
  refine bodyPost_ret (results_ct rfl _ _ w.heap.size 93 #[.int .i64 1, .string ⟨#[]⟩] (0, 0) _ rfl HB.out Tryz.underlying93 rfl (by kernel_rfl)) rfl ?_
  exact ⟨by rw [E.out]; rfl, by rw [E.out]; exact ⟨_, HD.out, HK.out, by first | exact fun b hb => Or.inl hb | (intro b hb; simp [Value.ownBlock] at hb)⟩⟩

set_option maxHeartbeats 1000000 in
set_option maxRecDepth 100000 in
theorem bit_one_out (h : DecV w g v c false ones) (h0 : 0 ≤ ones) (h1 : ones ≤ 1000000000) :
    Calls Tryz.prog 58 #[.pointer (some ⟨g, 0, none⟩), .int .u8 49] w (BitPost w g v (bitP c false ones 49)) := by
  have e : bitP c false ones 49 = (none, (c, false, ones + 1)) := by unfold bitP; rw [if_pos rfl, if_neg (by intro q; exact Bool.noConfusion q.2), if_neg (by intro q; exact Bool.noConfusion q.1)]
  have E := Lib.hid e
  obtain ⟨A, cp, rfl⟩ := own_slice h.2
  have c0 := at_cell h.1 0
  have c1 := at_cell h.1 1
  have c2 := at_cell h.1 2
  have f0 := at_frozen h.1 0
  have f1 := at_frozen h.1 1
  have f2 := at_frozen h.1 2
  simp at c0 c1 c2
  have hgl := lt_of_at h.1
  clear e
  have hD := (h.count (ones + 1)).below ((Below.refl _ _).alloc (Nat.le_refl _) (.cells #[.int .i64 0, .string ⟨#[]⟩] 93))
  have hK : Only (g :: (Value.slice A c.length cp).ownBlock.toList) w ((w.setCell ⟨g, 2, none⟩ (.int .i64 (ones + 1))).alloc (.cells #[.int .i64 0, .string ⟨#[]⟩] 93)) := ((Only.refl _ _).setCell (Or.inl (by simp)) _).alloc _
  have hb := at_new (w.setCell ⟨g, 2, none⟩ (.int .i64 (ones + 1))) (.cells #[.int .i64 0, .string ⟨#[]⟩] 93)
  rw [show (w.setCell ⟨g, 2, none⟩ (.int .i64 (ones + 1))).heap.size = w.heap.size by simp [World.setCell]] at hb
  have HD := Lib.hid hD
  have HK := Lib.hid hK
  have HB := Lib.hid hb
  clear h hD hK hb
  by_cases h7 : ones + 1 = 7
  · have q1 : (ones + 1 == 7) = true := by simpa using h7
    clear h7
    go_enter Tryz.func58, Tryz.ntmps58
    go_wp2
    refine bodyPost_ret (results_ct rfl _ _ w.heap.size 93 #[.int .i64 0, .string ⟨#[]⟩] (0, 0) _ rfl HB.out Tryz.underlying93 rfl (by kernel_rfl)) rfl ?_
    exact ⟨by rw [E.out]; rfl, by rw [E.out]; exact ⟨_, HD.out, HK.out, by first | exact fun b hb => Or.inl hb | (intro b hb; simp [Value.ownBlock] at hb)⟩⟩
  · have q1 : (ones + 1 == 7) = false := by simpa using h7
    clear h7
    go_enter Tryz.func58, Tryz.ntmps58
    go_wp2
    refine bodyPost_ret (results_ct rfl _ _ w.heap.size 93 #[.int .i64 0, .string ⟨#[]⟩] (0, 0) _ rfl HB.out Tryz.underlying93 rfl (by kernel_rfl)) rfl ?_
    exact ⟨by rw [E.out]; rfl, by rw [E.out]; exact ⟨_, HD.out, HK.out, by first | exact fun b hb => Or.inl hb | (intro b hb; simp [Value.ownBlock] at hb)⟩⟩

set_option maxHeartbeats 1000000 in
set_option maxRecDepth 100000 in
theorem bit_one_many (h : DecV w g v c true ones) (h0 : 5 ≤ ones) (h6 : ones ≠ 6) (h1 : ones ≤ 1000000000) :
    Calls Tryz.prog 58 #[.pointer (some ⟨g, 0, none⟩), .int .u8 49] w (BitPost w g v (bitP c true ones 49)) := by
  have e : bitP c true ones 49 = (none, (c, true, ones + 1)) := by unfold bitP; rw [if_pos rfl, if_neg (by omega), if_neg (by omega)]
  have E := Lib.hid e
  obtain ⟨A, cp, rfl⟩ := own_slice h.2
  have c0 := at_cell h.1 0
  have c1 := at_cell h.1 1
  have c2 := at_cell h.1 2
  have f0 := at_frozen h.1 0
  have f1 := at_frozen h.1 1
  have f2 := at_frozen h.1 2
  simp at c0 c1 c2
  have hgl := lt_of_at h.1
  clear e
  have hD := (h.count (ones + 1)).below ((Below.refl _ _).alloc (Nat.le_refl _) (.cells #[.int .i64 0, .string ⟨#[]⟩] 93))
  have hK : Only (g :: (Value.slice A c.length cp).ownBlock.toList) w ((w.setCell ⟨g, 2, none⟩ (.int .i64 (ones + 1))).alloc (.cells #[.int .i64 0, .string ⟨#[]⟩] 93)) := ((Only.refl _ _).setCell (Or.inl (by simp)) _).alloc _
  have hb := at_new (w.setCell ⟨g, 2, none⟩ (.int .i64 (ones + 1))) (.cells #[.int .i64 0, .string ⟨#[]⟩] 93)
  rw [show (w.setCell ⟨g, 2, none⟩ (.int .i64 (ones + 1))).heap.size = w.heap.size by simp [World.setCell]] at hb
  have HD := Lib.hid hD
  have HK := Lib.hid hK
  have HB := Lib.hid hb
  clear h hD hK hb
  have q1 : (ones + 1 == 7) = false := by simp; omega
  have q2 : decide (ones + 1 ≤ 5) = false := by simp; omega
  clear h6
  go_enter Tryz.func58, Tryz.ntmps58
  go_wp2
  refine bodyPost_ret (results_ct rfl _ _ w.heap.size 93 #[.int .i64 0, .string ⟨#[]⟩] (0, 0) _ rfl HB.out Tryz.underlying93 rfl (by kernel_rfl)) rfl ?_
  exact ⟨by rw [E.out]; rfl, by rw [E.out]; exact ⟨_, HD.out, HK.out, by first | exact fun b hb => Or.inl hb | (intro b hb; simp [Value.ownBlock] at hb)⟩⟩

set_option maxHeartbeats 1000000 in
set_option maxRecDepth 100000 in
theorem bit_one_full (h : DecV w g v c true ones) (hl : c.length ≤ 2135) (h0 : 0 ≤ ones) (h1 : ones ≤ 4) (h2 : 2134 < c.length) :
    Calls Tryz.prog 58 #[.pointer (some ⟨g, 0, none⟩), .int .u8 49] w (BitPost w g v (bitP c true ones 49)) := by
  have e : bitP c true ones 49 = (none, (c, true, ones + 1)) := by unfold bitP; rw [if_pos rfl, if_neg (by omega), if_neg (by omega)]
  have E := Lib.hid e
  obtain ⟨A, cp, rfl⟩ := own_slice h.2
  have c0 := at_cell h.1 0
  have c1 := at_cell h.1 1
  have c2 := at_cell h.1 2
  have f0 := at_frozen h.1 0
  have f1 := at_frozen h.1 1
  have f2 := at_frozen h.1 2
  simp at c0 c1 c2
  have hgl := lt_of_at h.1
  clear e
  have hD := (h.count (ones + 1)).below ((Below.refl _ _).alloc (Nat.le_refl _) (.cells #[.int .i64 0, .string ⟨#[]⟩] 93))
  have hK : Only (g :: (Value.slice A c.length cp).ownBlock.toList) w ((w.setCell ⟨g, 2, none⟩ (.int .i64 (ones + 1))).alloc (.cells #[.int .i64 0, .string ⟨#[]⟩] 93)) := ((Only.refl _ _).setCell (Or.inl (by simp)) _).alloc _
  have hb := at_new (w.setCell ⟨g, 2, none⟩ (.int .i64 (ones + 1))) (.cells #[.int .i64 0, .string ⟨#[]⟩] 93)
  rw [show (w.setCell ⟨g, 2, none⟩ (.int .i64 (ones + 1))).heap.size = w.heap.size by simp [World.setCell]] at hb
  have HD := Lib.hid hD
  have HK := Lib.hid hK
  have HB := Lib.hid hb
  clear h hD hK hb
  have q1 : (ones + 1 == 7) = false := by simp; omega
  have q2 : ones + 1 ≤ 5 := by omega
  have q3 : decide ((c.length : Int) ≤ 2134) = false := by simp; omega
  go_enter Tryz.func58, Tryz.ntmps58
  go_wp2
  refine bodyPost_ret (results_ct rfl _ _ w.heap.size 93 #[.int .i64 0, .string ⟨#[]⟩] (0, 0) _ rfl HB.out Tryz.underlying93 rfl (by kernel_rfl)) rfl ?_
  exact ⟨by rw [E.out]; rfl, by rw [E.out]; exact ⟨_, HD.out, HK.out, by first | exact fun b hb => Or.inl hb | (intro b hb; simp [Value.ownBlock] at hb)⟩⟩

set_option maxHeartbeats 1000000 in
set_option maxRecDepth 100000 in
theorem bit_zero_stuffed (h : DecV w g v c was ones) (h0 : 5 ≤ ones) (h6 : ones ≠ 6) :
    Calls Tryz.prog 58 #[.pointer (some ⟨g, 0, none⟩), .int .u8 48] w (BitPost w g v (bitP c was ones 48)) := by
  have e : bitP c was ones 48 = (none, (c, was, 0)) := by unfold bitP; rw [if_neg (by decide), if_pos h0, if_neg h6]
  have E := Lib.hid e
  obtain ⟨A, cp, rfl⟩ := own_slice h.2
  have c0 := at_cell h.1 0
  have c1 := at_cell h.1 1
  have c2 := at_cell h.1 2
  have f0 := at_frozen h.1 0
  have f1 := at_frozen h.1 1
  have f2 := at_frozen h.1 2
  simp at c0 c1 c2
  have hgl := lt_of_at h.1
  clear e
  have hD := (h.count 0).below ((Below.refl _ _).alloc (Nat.le_refl _) (.cells #[.int .i64 0, .string ⟨#[]⟩] 93))
  have hK : Only (g :: (Value.slice A c.length cp).ownBlock.toList) w ((w.setCell ⟨g, 2, none⟩ (.int .i64 0)).alloc (.cells #[.int .i64 0, .string ⟨#[]⟩] 93)) := ((Only.refl _ _).setCell (Or.inl (by simp)) _).alloc _
  have hb := at_new (w.setCell ⟨g, 2, none⟩ (.int .i64 0)) (.cells #[.int .i64 0, .string ⟨#[]⟩] 93)
  rw [show (w.setCell ⟨g, 2, none⟩ (.int .i64 0)).heap.size = w.heap.size by simp [World.setCell]] at hb
  have HD := Lib.hid hD
  have HK := Lib.hid hK
  have HB := Lib.hid hb
  clear h hD hK hb
  have q1 : (ones == 6) = false := by simpa using h6
  clear h6
  by_cases h5 : ones = 5
  · subst h5
    go_enter Tryz.func58, Tryz.ntmps58
    go_wp2
    refine bodyPost_ret (results_ct rfl _ _ w.heap.size 93 #[.int .i64 0, .string ⟨#[]⟩] (0, 0) _ rfl HB.out Tryz.underlying93 rfl (by kernel_rfl)) rfl ?_
    exact ⟨by rw [E.out]; rfl, by rw [E.out]; exact ⟨_, HD.out, HK.out, by first | exact fun b hb => Or.inl hb | (intro b hb; simp [Value.ownBlock] at hb)⟩⟩
  · have q2 : 5 < ones := by omega
    clear h5
    go_enter Tryz.func58, Tryz.ntmps58
    go_wp2
    refine bodyPost_ret (results_ct rfl _ _ w.heap.size 93 #[.int .i64 0, .string ⟨#[]⟩] (0, 0) _ rfl HB.out Tryz.underlying93 rfl (by kernel_rfl)) rfl ?_
    exact ⟨by rw [E.out]; rfl, by rw [E.out]; exact ⟨_, HD.out, HK.out, by first | exact fun b hb => Or.inl hb | (intro b hb; simp [Value.ownBlock] at hb)⟩⟩

set_option maxHeartbeats 1000000 in
set_option maxRecDepth 100000 in
theorem bit_zero_out (h : DecV w g v c false ones) (h0 : 0 ≤ ones) (h1 : ones ≤ 4) :
    Calls Tryz.prog 58 #[.pointer (some ⟨g, 0, none⟩), .int .u8 48] w (BitPost w g v (bitP c false ones 48)) := by
  have e : bitP c false ones 48 = (none, (c, false, 0)) := by unfold bitP; rw [if_neg (by decide), if_neg (by omega), if_neg (by intro q; exact Bool.noConfusion q.1)]
  have E := Lib.hid e
  obtain ⟨A, cp, rfl⟩ := own_slice h.2
  have c0 := at_cell h.1 0
  have c1 := at_cell h.1 1
  have c2 := at_cell h.1 2
  have f0 := at_frozen h.1 0
  have f1 := at_frozen h.1 1
  have f2 := at_frozen h.1 2
  simp at c0 c1 c2
  have hgl := lt_of_at h.1
  clear e
  have hD := (h.count 0).below ((Below.refl _ _).alloc (Nat.le_refl _) (.cells #[.int .i64 0, .string ⟨#[]⟩] 93))
  have hK : Only (g :: (Value.slice A c.length cp).ownBlock.toList) w ((w.setCell ⟨g, 2, none⟩ (.int .i64 0)).alloc (.cells #[.int .i64 0, .string ⟨#[]⟩] 93)) := ((Only.refl _ _).setCell (Or.inl (by simp)) _).alloc _
  have hb := at_new (w.setCell ⟨g, 2, none⟩ (.int .i64 0)) (.cells #[.int .i64 0, .string ⟨#[]⟩] 93)
  rw [show (w.setCell ⟨g, 2, none⟩ (.int .i64 0)).heap.size = w.heap.size by simp [World.setCell]] at hb
  have HD := Lib.hid hD
  have HK := Lib.hid hK
  have HB := Lib.hid hb
  clear h hD hK hb
  have q1 : decide (5 < ones) = false := by simp; omega
  have q2 : (ones == 5) = false := by simp; omega
  go_enter Tryz.func58, Tryz.ntmps58
  go_wp2
  refine bodyPost_ret (results_ct rfl _ _ w.heap.size 93 #[.int .i64 0, .string ⟨#[]⟩] (0, 0) _ rfl HB.out Tryz.underlying93 rfl (by kernel_rfl)) rfl ?_
  exact ⟨by rw [E.out]; rfl, by rw [E.out]; exact ⟨_, HD.out, HK.out, by first | exact fun b hb => Or.inl hb | (intro b hb; simp [Value.ownBlock] at hb)⟩⟩

set_option maxHeartbeats 1000000 in
set_option maxRecDepth 100000 in
theorem bit_zero_full (h : DecV w g v c true ones) (hl : c.length ≤ 2135) (h0 : 0 ≤ ones) (h1 : ones ≤ 4) (h2 : 2134 < c.length) :
    Calls Tryz.prog 58 #[.pointer (some ⟨g, 0, none⟩), .int .u8 48] w (BitPost w g v (bitP c true ones 48)) := by
  have e : bitP c true ones 48 = (none, (c, true, 0)) := by unfold bitP; rw [if_neg (by decide), if_neg (by omega), if_neg (by omega)]
  have E := Lib.hid e
  obtain ⟨A, cp, rfl⟩ := own_slice h.2
  have c0 := at_cell h.1 0
  have c1 := at_cell h.1 1
  have c2 := at_cell h.1 2
  have f0 := at_frozen h.1 0
  have f1 := at_frozen h.1 1
  have f2 := at_frozen h.1 2
  simp at c0 c1 c2
  have hgl := lt_of_at h.1
  clear e
  have hD := (h.count 0).below ((Below.refl _ _).alloc (Nat.le_refl _) (.cells #[.int .i64 0, .string ⟨#[]⟩] 93))
  have hK : Only (g :: (Value.slice A c.length cp).ownBlock.toList) w ((w.setCell ⟨g, 2, none⟩ (.int .i64 0)).alloc (.cells #[.int .i64 0, .string ⟨#[]⟩] 93)) := ((Only.refl _ _).setCell (Or.inl (by simp)) _).alloc _
  have hb := at_new (w.setCell ⟨g, 2, none⟩ (.int .i64 0)) (.cells #[.int .i64 0, .string ⟨#[]⟩] 93)
  rw [show (w.setCell ⟨g, 2, none⟩ (.int .i64 0)).heap.size = w.heap.size by simp [World.setCell]] at hb
  have HD := Lib.hid hD
  have HK := Lib.hid hK
  have HB := Lib.hid hb
  clear h hD hK hb
  have q1 : decide (5 < ones) = false := by simp; omega
  have q2 : (ones == 5) = false := by simp; omega
  have q3 : decide ((c.length : Int) ≤ 2134) = false := by simp; omega
  go_enter Tryz.func58, Tryz.ntmps58
  go_wp2
  refine bodyPost_ret (results_ct rfl _ _ w.heap.size 93 #[.int .i64 0, .string ⟨#[]⟩] (0, 0) _ rfl HB.out Tryz.underlying93 rfl (by kernel_rfl)) rfl ?_
  exact ⟨by rw [E.out]; rfl, by rw [E.out]; exact ⟨_, HD.out, HK.out, by first | exact fun b hb => Or.inl hb | (intro b hb; simp [Value.ownBlock] at hb)⟩⟩

set_option maxHeartbeats 1000000 in
set_option maxRecDepth 100000 in
theorem bit_one_in (h : DecV w g v c true ones) (hl : c.length ≤ 2134) (h0 : 0 ≤ ones) (h1 : ones ≤ 4) :
    Calls Tryz.prog 58 #[.pointer (some ⟨g, 0, none⟩), .int .u8 49] w (BitPost w g v (bitP c true ones 49)) := by
  have e : bitP c true ones 49 = (none, (c ++ [49], true, ones + 1)) := by unfold bitP; rw [if_pos rfl, if_neg (by omega), if_pos ⟨rfl, by omega, hl⟩]
  have E := Lib.hid e
  obtain ⟨A, cp, rfl⟩ := own_slice h.2
  have c0 := at_cell h.1 0
  have c1 := at_cell h.1 1
  have c2 := at_cell h.1 2
  have f0 := at_frozen h.1 0
  have f1 := at_frozen h.1 1
  have f2 := at_frozen h.1 2
  simp at c0 c1 c2
  have hgl := lt_of_at h.1
  clear e
  have hO : ((w.setCell ⟨g, 2, none⟩ (.int .i64 (ones + 1))).alloc (.cells #[.int .i64 0, .string ⟨#[]⟩] 93)).ownsRow (g + 1) 5 1 (.slice A c.length cp) c.length (nums .u8 c) := ((h.count (ones + 1)).below ((Below.refl _ _).alloc (Nat.le_refl _) _)).2
  have HH := Lib.hid h
  have HO := Lib.hid hO
  clear h hO
  have q1 : (ones + 1 == 7) = false := by simp; omega
  have q2 : ones + 1 ≤ 5 := by omega
  have q3 : (c.length : Int) ≤ 2134 := by omega
  go_enter Tryz.func58, Tryz.ntmps58
  go_wp2_with (at_builtin; refine print_append_num (w0 := (w.setCell ⟨g, 2, none⟩ (.int .i64 (ones + 1))).alloc (.cells #[.int .i64 0, .string ⟨#[]⟩] 93)) (g + 1) rfl _ _ 75 5 .u8 1 rfl Tryz.underlying75 infoU8 (by decide) _ c 49 rfl (by rw [World.size_alloc, setg_size]; rfl) ?c1 ?c2 ?c3 ?c4 ?c5)
  case c1 => exact HO.out
  case c2 => exact Below.refl _ _
  case c3 => simp [World.setCell]; omega
  case c4 => omega
  case c5 =>
    intro v1 w1 hown _ hgr hat
    obtain ⟨A1, cp1, rfl⟩ := own_slice hown
    obtain ⟨d1, d2, d3⟩ := HH.out.grow hown hgr hat
    have k0 := at_cell d1 0
    have j0 := at_frozen d1 0
    have b0 := at_cell d2 0
    have b1 := at_cell d2 1
    have l0 := at_frozen d2 0
    have l1 := at_frozen d2 1
    simp at k0 b0 b1
    have hne : w.heap.size ≠ g := by omega
    have D2 := Lib.hid d2
    have D3 := Lib.hid d3
    have d4 : ∀ b, (Value.slice A1 (c.length + 1) cp1).ownBlock = some b → (Value.slice A c.length cp).ownBlock = some b ∨ w.heap.size ≤ b := by
      intro b hb
      rcases hat with hat | ⟨k, hat, hk⟩
      · exact Or.inl (hat ▸ hb)
      · rw [hat] at hb; injection hb with hb; exact Or.inr (by omega)
    have D4 := Lib.hid d4
    clear d4
    clear hown hgr hat d1 d2 d3 c0 c1 c2 f0 f1 f2
    go_wp2
    refine bodyPost_ret (results_ct rfl _ _ w.heap.size 93 #[.int .i64 0, .string ⟨#[]⟩] (0, 0) _ rfl (by rw [at_set (at_set (at_far D2.out (by exact hne) _) 0 _) 1 _]; rfl) Tryz.underlying93 rfl (by kernel_rfl)) rfl ?_
    exact ⟨by rw [E.out]; rfl, by rw [E.out]; exact ⟨_, (D3.out _ _).1, (D3.out _ _).2, D4.out⟩⟩

set_option maxHeartbeats 1000000 in
set_option maxRecDepth 100000 in
theorem bit_zero_in (h : DecV w g v c true ones) (hl : c.length ≤ 2134) (h0 : 0 ≤ ones) (h1 : ones ≤ 4) :
    Calls Tryz.prog 58 #[.pointer (some ⟨g, 0, none⟩), .int .u8 48] w (BitPost w g v (bitP c true ones 48)) := by
  have e : bitP c true ones 48 = (none, (c ++ [48], true, 0)) := by unfold bitP; rw [if_neg (by decide), if_neg (by omega), if_pos ⟨rfl, hl⟩]
  have E := Lib.hid e
  obtain ⟨A, cp, rfl⟩ := own_slice h.2
  have c0 := at_cell h.1 0
  have c1 := at_cell h.1 1
  have c2 := at_cell h.1 2
  have f0 := at_frozen h.1 0
  have f1 := at_frozen h.1 1
  have f2 := at_frozen h.1 2
  simp at c0 c1 c2
  have hgl := lt_of_at h.1
  clear e
  have hO : ((w.setCell ⟨g, 2, none⟩ (.int .i64 0)).alloc (.cells #[.int .i64 0, .string ⟨#[]⟩] 93)).ownsRow (g + 1) 5 1 (.slice A c.length cp) c.length (nums .u8 c) := ((h.count 0).below ((Below.refl _ _).alloc (Nat.le_refl _) _)).2
  have HH := Lib.hid h
  have HO := Lib.hid hO
  clear h hO
  have q1 : decide (5 < ones) = false := by simp; omega
  have q2 : (ones == 5) = false := by simp; omega
  have q3 : (c.length : Int) ≤ 2134 := by omega
  go_enter Tryz.func58, Tryz.ntmps58
  go_wp2_with (at_builtin; refine print_append_num (w0 := (w.setCell ⟨g, 2, none⟩ (.int .i64 0)).alloc (.cells #[.int .i64 0, .string ⟨#[]⟩] 93)) (g + 1) rfl _ _ 75 5 .u8 1 rfl Tryz.underlying75 infoU8 (by decide) _ c 48 rfl (by rw [World.size_alloc, setg_size]; rfl) ?c1 ?c2 ?c3 ?c4 ?c5)
  case c1 => exact HO.out
  case c2 => exact Below.refl _ _
  case c3 => simp [World.setCell]; omega
  case c4 => omega
  case c5 =>
    intro v1 w1 hown _ hgr hat
    obtain ⟨A1, cp1, rfl⟩ := own_slice hown
    obtain ⟨d1, d2, d3⟩ := HH.out.grow hown hgr hat
    have k0 := at_cell d1 0
    have j0 := at_frozen d1 0
    have b0 := at_cell d2 0
    have b1 := at_cell d2 1
    have l0 := at_frozen d2 0
    have l1 := at_frozen d2 1
    simp at k0 b0 b1
    have hne : w.heap.size ≠ g := by omega
    have D2 := Lib.hid d2
    have D3 := Lib.hid d3
    have d4 : ∀ b, (Value.slice A1 (c.length + 1) cp1).ownBlock = some b → (Value.slice A c.length cp).ownBlock = some b ∨ w.heap.size ≤ b := by
      intro b hb
      rcases hat with hat | ⟨k, hat, hk⟩
      · exact Or.inl (hat ▸ hb)
      · rw [hat] at hb; injection hb with hb; exact Or.inr (by omega)
    have D4 := Lib.hid d4
    clear d4
    clear hown hgr hat d1 d2 d3 c0 c1 c2 f0 f1 f2
    go_wp2
    refine bodyPost_ret (results_ct rfl _ _ w.heap.size 93 #[.int .i64 0, .string ⟨#[]⟩] (0, 0) _ rfl (by rw [at_set (at_set (at_far D2.out (by exact hne) _) 0 _) 1 _]; rfl) Tryz.underlying93 rfl (by kernel_rfl)) rfl ?_
    exact ⟨by rw [E.out]; rfl, by rw [E.out]; exact ⟨_, (D3.out _ _).1, (D3.out _ _).2, D4.out⟩⟩

set_option maxHeartbeats 1000000 in
set_option maxRecDepth 100000 in
theorem bit_flag (h : DecV w g v c was 6) (hb : IsBits c) (hl : c.length ≤ 10000) :
    Calls Tryz.prog 58 #[.pointer (some ⟨g, 0, none⟩), .int .u8 48] w (BitPost w g v (bitP c was 6 48)) := by
  have e : bitP c was 6 48 = (flagP c was, ([], true, 0)) := by unfold bitP; rw [if_neg (by decide), if_pos (by omega), if_pos rfl]
  have E := Lib.hid e
  obtain ⟨A, cp, rfl⟩ := own_slice h.2
  have c2 := at_cell h.1 2
  have f2 := at_frozen h.1 2
  simp at c2
  have hgl := lt_of_at h.1
  have hD := (h.count 0).below ((Below.refl _ _).alloc (Nat.le_refl _) (.cells #[.int .i64 0, .string ⟨#[]⟩] 93))
  have hK : Only [g] w ((w.setCell ⟨g, 2, none⟩ (.int .i64 0)).alloc (.cells #[.int .i64 0, .string ⟨#[]⟩] 93)) := ((Only.refl _ _).setCell (Or.inl (by simp)) _).alloc _
  have hx := at_new (w.setCell ⟨g, 2, none⟩ (.int .i64 0)) (.cells #[.int .i64 0, .string ⟨#[]⟩] 93)
  rw [setg_size] at hx
  have HD := Lib.hid hD
  have HK := Lib.hid hK
  have HX := Lib.hid hx
  have HB := Lib.hid hb
  clear h e hD hK hx hb
  go_enter Tryz.func58, Tryz.ntmps58
  go_wp2_with fail
  refine (flag_any HD.out HB.out hl).mono ?_
  rintro e w2 ⟨rfl, d2, k2⟩
  have hx2 := k2.at HX.out (by simp; omega)
  have x0 := at_cell hx2 0
  have x1 := at_cell hx2 1
  have y0 := at_frozen hx2 0
  have y1 := at_frozen hx2 1
  simp at x0 x1
  have hfin : ∀ a b, DecV ((w2.setCell ⟨w.heap.size, 0, none⟩ a).setCell ⟨w.heap.size, 1, none⟩ b) g (.slice none 0 0) [] true 0 ∧ Only (g :: (Value.slice A c.length cp).ownBlock.toList) w ((w2.setCell ⟨w.heap.size, 0, none⟩ a).setCell ⟨w.heap.size, 1, none⟩ b) := by
    intro a b
    refine ⟨d2.keep (S := [w.heap.size]) (((Only.refl _ _).setCell (Or.inl (by simp)) _).setCell (Or.inl (by simp)) _) (by simp; omega) (by intro b hb; simp [Value.ownBlock] at hb), ?_⟩
    exact (((HK.out.trans k2).front).setCell (Or.inr (by simp)) _).setCell (Or.inr (by simp)) _
  have HF := Lib.hid hfin
  have HX2 := Lib.hid hx2
  clear d2 k2 hx2 hfin c2 f2
  obtain ⟨f, hf⟩ : ∃ f, flagP c was = f := ⟨_, rfl⟩
  rw [hf] at E ⊢
  clear hf
  rcases f with _ | ⟨kd, oc⟩
  · unfold evV
    go_wp2
    refine bodyPost_ret (results_ct rfl _ _ w.heap.size 93 #[.int .i64 0, .string (strOfNums [])] (0, 0) _ rfl (by rw [at_set (at_set HX2.out 0 _) 1 _]; rfl) Tryz.underlying93 rfl (by kernel_rfl)) rfl ?_
    exact ⟨by rw [E.out]; rfl, by rw [E.out]; exact ⟨_, (HF.out _ _).1, (HF.out _ _).2, by intro b hb; simp [Value.ownBlock] at hb⟩⟩
  · unfold evV
    go_wp2
    refine bodyPost_ret (results_ct rfl _ _ w.heap.size 93 #[.int .i64 kd, .string (strOfNums oc)] (0, 0) _ rfl (by rw [at_set (at_set HX2.out 0 _) 1 _]; rfl) Tryz.underlying93 rfl (by kernel_rfl)) rfl ?_
    exact ⟨by rw [E.out]; rfl, by rw [E.out]; exact ⟨_, (HF.out _ _).1, (HF.out _ _).2, by intro b hb; simp [Value.ownBlock] at hb⟩⟩

theorem bit_any (x : Int) (h : DecV w g v c was ones) (hb : IsBits c) (hl : c.length ≤ 2135) (h0 : 0 ≤ ones) (h1 : ones ≤ 1000000000) (hx : x = 48 ∨ x = 49) :
    Calls Tryz.prog 58 #[.pointer (some ⟨g, 0, none⟩), .int .u8 x] w (BitPost w g v (bitP c was ones x)) := by
  rcases hx with rfl | rfl
  · by_cases h5 : 5 ≤ ones
    · by_cases h6 : ones = 6
      · subst h6; exact bit_flag h hb (by omega)
      · exact bit_zero_stuffed h h5 h6
    · cases was
      · exact bit_zero_out h h0 (by omega)
      · by_cases h2 : c.length ≤ 2134
        · exact bit_zero_in h h2 h0 (by omega)
        · exact bit_zero_full h hl h0 (by omega) (by omega)
  · cases was
    · exact bit_one_out h h0 h1
    · by_cases h6 : ones = 6
      · subst h6; exact bit_abort h
      · by_cases h5 : 5 ≤ ones
        · exact bit_one_many h h5 h6 h1
        · by_cases h2 : c.length ≤ 2134
          · exact bit_one_in h h2 h0 (by omega)
          · exact bit_one_full h hl h0 (by omega) (by omega)

end
end Go.Proofs.YtlfcfmdblmedcaaGreatDoor.Mine
