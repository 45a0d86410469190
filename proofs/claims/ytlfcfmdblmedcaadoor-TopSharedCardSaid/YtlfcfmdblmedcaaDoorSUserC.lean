/- The contract of Message. -/
import Derived.Test.YtlfcfmdblmedcaaDoorSUserB
namespace Go.Proofs.YtlfcfmdblmedcaaDoor.Mine
open Go.RowKit Go.Proofs.YtlfcfmdblmedcaaDoorW.PrintWords
attribute [local go_sem] max_int min_int max_of_two min_of_two

theorem Efs.mono {B B' : Nat} {w : World} {v : Value} {l : List Ef} (h : Efs B w v l) (hB : B' ≤ B) : Efs B' w v l := by
  obtain ⟨A, c, h1, h2⟩ := h
  refine ⟨A, c, h1, h2.imp id ?_⟩
  rintro ⟨b, k1, k2, k3⟩
  exact ⟨b, k1, by omega, k3⟩

set_option maxHeartbeats 1000000 in
theorem message_bad {g : Nat} {D : Dr} {most : Int} {s : US} {p : Pn} (t ri ai : Int) (w : World) (h : UAt w g D most s p) (hE : putE t ri ai ≠ 0) :
    Calls Tryd.prog 22 #[.pointer (some ⟨g, 0, none⟩), .agg #[.int .i64 t, .int .i64 ri, .int .i64 ai]] w fun e w' => ∃ v, e = .returned v ∧ Done w g D most ⟨[], 0, s, p⟩ v w' := by
  have H := Lib.hid h
  clear h
  go_enter Tryd.func22, Tryd.ntmps22
  go_wp2_with (go_at_call 45; refine (put_msg _ _ _ _).mono ?_; rintro e w1 ⟨x, rfl, bb, -, -, -, -⟩; have BB := Lib.hid bb; clear bb)
  go_ret
  exact ⟨_, rfl, Efs.nil _ _, H.out.below BB.out, Only.of_below BB.out _⟩

set_option maxHeartbeats 1000000 in
theorem message_takes {g : Nat} {D : Dr} {most : Int} {s : US} {p : Pn} (ai : Int) (w : World) (h : UAt w g D most s p) (hE : putE 2 s.ri ai = 0) (ht : s.tei = -1) (ha : s.asking = true) (h64 : 64 ≤ ai) (h126 : ai ≤ 126) :
    Calls Tryd.prog 22 #[.pointer (some ⟨g, 0, none⟩), .agg #[.int .i64 2, .int .i64 s.ri, .int .i64 ai]] w fun e w' => ∃ v, e = .returned v ∧ Done w g D most ⟨[⟨5, 0, 0, 0, 0⟩, ⟨1, 0, 0, 0, ai⟩], 0, ⟨ai, false, 0, 0⟩, p⟩ v w' := by
  have H := Lib.hid h
  clear h
  have HE := Lib.hid hE
  have hwf := H.out.2.2
  have HW : Hid (US.wf ⟨ai, false, 0, 0⟩ most) := by unfold US.wf at hwf; unfold Hid US.wf; simp; omega
  have hk : (if ai < 0 ∨ 127 < ai then (0 : Int) else if ai < 64 then 1 else if ai ≤ 126 then 2 else 3) = 2 := by rw [if_neg (by omega), if_neg (by omega), if_pos (by omega)]
  have HK := Lib.hid hk
  have HT := Lib.hid ht
  have HA := Lib.hid ha
  clear hE hwf hk ht ha
  go_enter Tryd.func22, Tryd.ntmps22
  go_wp2_with (first | (go_at_call 45; refine (put_msg _ _ _ _).mono ?_; rintro e w1 ⟨x, rfl, bb, hl0, m0, m1, m2⟩; rw [HE.out]; have hu1 := H.out.below bb; have hlg := hu1.lt; have hgw := H.out.lt; have hgn : w.heap.size ≠ g := (by omega); obtain ⟨c0, c1, c2, c3, -, c5⟩ := hu1.cells; obtain ⟨f0, f1, f2, f3⟩ := hu1.free; rw [HT.out] at c0; rw [HA.out] at c1; have HU1 := Lib.hid hu1; have BB := Lib.hid bb; clear hu1 bb) | (go_at_call 46; refine (kindOf_any _ _).mono ?_; rintro e w2 ⟨rfl, rfl⟩; rw [HK.out]))
  go_ret
  have k := ((Only.of_below BB.out (uset g D)).put4 (.int .i64 ai) (.bool false) (.int .i64 0) (.int .i64 0))
  refine ⟨_, rfl, Efs.two _ _ ⟨5, 0, 0, 0, 0⟩ ⟨1, 0, 0, 0, ai⟩ (k.alloc _).size (by simp), ?_, (k.alloc _).alloc _⟩
  exact ((HU1.out.set _ HW.out).below ((Below.refl _ _).alloc (Nat.le_refl _) _)).below ((Below.refl _ _).alloc (Nat.le_refl _) _)

def kkk (ai : Int) : Int := if ai < 0 ∨ 127 < ai then (0 : Int) else if ai < 64 then 1 else if ai ≤ 126 then 2 else 3
set_option maxHeartbeats 1000000 in
theorem message_lose2 {g : Nat} {D : Dr} {most : Int} {s : US} {p : Pn} (ri : Int) (w : World) (h : UAt w g D most s p) (hE : putE 2 ri s.tei = 0) (ht : ¬ s.tei = -1) :
    Calls Tryd.prog 22 #[.pointer (some ⟨g, 0, none⟩), .agg #[.int .i64 2, .int .i64 ri, .int .i64 s.tei]] w fun e w' => ∃ v, e = .returned v ∧ Done w g D most ⟨(uLose s).1, 0, (uLose s).2, p⟩ v w' := by
  have H := Lib.hid h
  clear h
  have HE := Lib.hid hE
  have hwf := H.out.2.2
  have ha : s.asking = false := by
    unfold US.wf at hwf
    rcases hwf.2.2.2.2.2.2.2.2.1 with h | h
    · exact h
    · exact absurd h.1 ht
  have HA := Lib.hid ha
  have q0 : (s.tei != -1) = true := by simpa using ht
  clear hE hwf ha
  go_enter Tryd.func22, Tryd.ntmps22
  go_wp2_with (first | (go_at_call 45; refine (put_msg _ _ _ _).mono ?_; rintro e w1 ⟨x, rfl, bb, hl0, m0, m1, m2⟩; rw [HE.out]; have hu1 := H.out.below bb; have hlg := hu1.lt; have hgw := H.out.lt; have hgn : w.heap.size ≠ g := (by omega); obtain ⟨c0, c1, c2, c3, -, c5⟩ := hu1.cells; obtain ⟨f0, f1, f2, f3⟩ := hu1.free; rw [HA.out] at c1;  have HU1 := Lib.hid hu1; have BB := Lib.hid bb; clear hu1 bb) | (go_at_call 47; refine (lose_any _ (HU1.out.below ((Below.refl _ _).alloc (Nat.le_refl _) _))).mono ?_; rintro e w3 ⟨v, rfl, a1, a2, a3⟩; have A1 := Lib.hid a1; have A2 := Lib.hid a2; have A3 := Lib.hid a3; clear a1 a2 a3))
  go_ret
  have k := (Only.of_below BB.out (uset g D)).alloc (.cells #[.int .i64 s.tei, .bool false, .int .i64 s.ri, .int .i64 s.tries] 68)
  exact ⟨v, rfl, A1.out.mono k.size, A2.out, k.trans A3.out⟩


set_option maxHeartbeats 1000000 in
theorem message_lose6a {g : Nat} {D : Dr} {most : Int} {s : US} {p : Pn} (ri : Int) (w : World) (h : UAt w g D most s p) (hE : putE 6 ri s.tei = 0) (ht : ¬ s.tei = -1) :
    Calls Tryd.prog 22 #[.pointer (some ⟨g, 0, none⟩), .agg #[.int .i64 6, .int .i64 ri, .int .i64 s.tei]] w fun e w' => ∃ v, e = .returned v ∧ Done w g D most ⟨(uLose s).1, 0, (uLose s).2, p⟩ v w' := by
  have H := Lib.hid h
  clear h
  have HE := Lib.hid hE
  have hwf := H.out.2.2
  have ha : s.asking = false := by
    unfold US.wf at hwf
    rcases hwf.2.2.2.2.2.2.2.2.1 with h | h
    · exact h
    · exact absurd h.1 ht
  have HA := Lib.hid ha
  have q0 : (s.tei != -1) = true := by simpa using ht
  clear hE hwf ha
  go_enter Tryd.func22, Tryd.ntmps22
  go_wp2_with (first | (go_at_call 45; refine (put_msg _ _ _ _).mono ?_; rintro e w1 ⟨x, rfl, bb, hl0, m0, m1, m2⟩; rw [HE.out]; have hu1 := H.out.below bb; have hlg := hu1.lt; have hgw := H.out.lt; have hgn : w.heap.size ≠ g := (by omega); obtain ⟨c0, c1, c2, c3, -, c5⟩ := hu1.cells; obtain ⟨f0, f1, f2, f3⟩ := hu1.free; rw [HA.out] at c1;  have HU1 := Lib.hid hu1; have BB := Lib.hid bb; clear hu1 bb) | (go_at_call 47; refine (lose_any _ (HU1.out.below ((Below.refl _ _).alloc (Nat.le_refl _) _))).mono ?_; rintro e w3 ⟨v, rfl, a1, a2, a3⟩; have A1 := Lib.hid a1; have A2 := Lib.hid a2; have A3 := Lib.hid a3; clear a1 a2 a3))
  go_ret
  have k := (Only.of_below BB.out (uset g D)).alloc (.cells #[.int .i64 s.tei, .bool false, .int .i64 s.ri, .int .i64 s.tries] 68)
  exact ⟨v, rfl, A1.out.mono k.size, A2.out, k.trans A3.out⟩


set_option maxHeartbeats 1000000 in
theorem message_lose6b {g : Nat} {D : Dr} {most : Int} {s : US} {p : Pn} (ri : Int) (w : World) (h : UAt w g D most s p) (hE : putE 6 ri 127 = 0) (ht : ¬ s.tei = -1) (h127 : ¬ (127 : Int) = s.tei) :
    Calls Tryd.prog 22 #[.pointer (some ⟨g, 0, none⟩), .agg #[.int .i64 6, .int .i64 ri, .int .i64 127]] w fun e w' => ∃ v, e = .returned v ∧ Done w g D most ⟨(uLose s).1, 0, (uLose s).2, p⟩ v w' := by
  have H := Lib.hid h
  clear h
  have HE := Lib.hid hE
  have hwf := H.out.2.2
  have ha : s.asking = false := by
    unfold US.wf at hwf
    rcases hwf.2.2.2.2.2.2.2.2.1 with h | h
    · exact h
    · exact absurd h.1 ht
  have HA := Lib.hid ha
  have q0 : (s.tei != -1) = true := by simpa using ht
  have q1 : ((127 : Int) == s.tei) = false := by simpa using h127
  clear hE hwf ha
  go_enter Tryd.func22, Tryd.ntmps22
  go_wp2_with (first | (go_at_call 45; refine (put_msg _ _ _ _).mono ?_; rintro e w1 ⟨x, rfl, bb, hl0, m0, m1, m2⟩; rw [HE.out]; have hu1 := H.out.below bb; have hlg := hu1.lt; have hgw := H.out.lt; have hgn : w.heap.size ≠ g := (by omega); obtain ⟨c0, c1, c2, c3, -, c5⟩ := hu1.cells; obtain ⟨f0, f1, f2, f3⟩ := hu1.free; rw [HA.out] at c1;  have HU1 := Lib.hid hu1; have BB := Lib.hid bb; clear hu1 bb) | (go_at_call 47; refine (lose_any _ (HU1.out.below ((Below.refl _ _).alloc (Nat.le_refl _) _))).mono ?_; rintro e w3 ⟨v, rfl, a1, a2, a3⟩; have A1 := Lib.hid a1; have A2 := Lib.hid a2; have A3 := Lib.hid a3; clear a1 a2 a3))
  go_ret
  have k := (Only.of_below BB.out (uset g D)).alloc (.cells #[.int .i64 s.tei, .bool false, .int .i64 s.ri, .int .i64 s.tries] 68)
  exact ⟨v, rfl, A1.out.mono k.size, A2.out, k.trans A3.out⟩


set_option maxHeartbeats 1000000 in
theorem message_o1 {g : Nat} {D : Dr} {most : Int} {s : US} {p : Pn} (t ri ai : Int) (w : World) (h : UAt w g D most s p) (hE : putE t ri ai = 0) (ht : s.tei = -1) (h2 : ¬ t = 2) (h4 : ¬ t = 4) (h6 : ¬ t = 6) :
    Calls Tryd.prog 22 #[.pointer (some ⟨g, 0, none⟩), .agg #[.int .i64 t, .int .i64 ri, .int .i64 ai]] w fun e w' => ∃ v, e = .returned v ∧ Done w g D most ⟨[], 0, s, p⟩ v w' := by
  have H := Lib.hid h
  clear h
  have HE := Lib.hid hE
  have hwf := H.out.2.2
  have HT := Lib.hid ht
  clear hE hwf ht
  go_enter Tryd.func22, Tryd.ntmps22
  go_wp2_with ((go_at_call 45; refine (put_msg _ _ _ _).mono ?_; rintro e w1 ⟨x, rfl, bb, hl0, m0, m1, m2⟩; rw [HE.out]; have hu1 := H.out.below bb; have hlg := hu1.lt; have hgw := H.out.lt; have hgn : w.heap.size ≠ g := (by omega); obtain ⟨c0, c1, c2, c3, -, c5⟩ := hu1.cells; obtain ⟨f0, f1, f2, f3⟩ := hu1.free; rw [HT.out] at c0;  have HU1 := Lib.hid hu1; have BB := Lib.hid bb; clear hu1 bb))
  go_ret
  exact ⟨_, rfl, Efs.nil _ _, HU1.out.below ((Below.refl _ _).alloc (Nat.le_refl _) _), (Only.of_below BB.out _).alloc _⟩


set_option maxHeartbeats 1000000 in
theorem message_o2 {g : Nat} {D : Dr} {most : Int} {s : US} {p : Pn} (t ri : Int) (w : World) (h : UAt w g D most s p) (hE : putE t ri s.tei = 0) (ht : ¬ s.tei = -1) (h2 : ¬ t = 2) (h4 : ¬ t = 4) (h6 : ¬ t = 6) :
    Calls Tryd.prog 22 #[.pointer (some ⟨g, 0, none⟩), .agg #[.int .i64 t, .int .i64 ri, .int .i64 s.tei]] w fun e w' => ∃ v, e = .returned v ∧ Done w g D most ⟨[], 0, s, p⟩ v w' := by
  have H := Lib.hid h
  clear h
  have HE := Lib.hid hE
  have hwf := H.out.2.2
  have ha : s.asking = false := by
    unfold US.wf at hwf
    rcases hwf.2.2.2.2.2.2.2.2.1 with h | h
    · exact h
    · exact absurd h.1 ht
  have HA := Lib.hid ha
  have q0 : (s.tei != -1) = true := by simpa using ht
  clear hE hwf ha
  go_enter Tryd.func22, Tryd.ntmps22
  go_wp2_with ((go_at_call 45; refine (put_msg _ _ _ _).mono ?_; rintro e w1 ⟨x, rfl, bb, hl0, m0, m1, m2⟩; rw [HE.out]; have hu1 := H.out.below bb; have hlg := hu1.lt; have hgw := H.out.lt; have hgn : w.heap.size ≠ g := (by omega); obtain ⟨c0, c1, c2, c3, -, c5⟩ := hu1.cells; obtain ⟨f0, f1, f2, f3⟩ := hu1.free; rw [HA.out] at c1;  have HU1 := Lib.hid hu1; have BB := Lib.hid bb; clear hu1 bb))
  go_ret
  exact ⟨_, rfl, Efs.nil _ _, HU1.out.below ((Below.refl _ _).alloc (Nat.le_refl _) _), (Only.of_below BB.out _).alloc _⟩


set_option maxHeartbeats 1000000 in
theorem message_o3 {g : Nat} {D : Dr} {most : Int} {s : US} {p : Pn} (t ri : Int) (w : World) (h : UAt w g D most s p) (hE : putE t ri 127 = 0) (ht : ¬ s.tei = -1) (h127 : ¬ (127 : Int) = s.tei) (h2 : ¬ t = 2) (h4 : ¬ t = 4) (h6 : ¬ t = 6) :
    Calls Tryd.prog 22 #[.pointer (some ⟨g, 0, none⟩), .agg #[.int .i64 t, .int .i64 ri, .int .i64 127]] w fun e w' => ∃ v, e = .returned v ∧ Done w g D most ⟨[], 0, s, p⟩ v w' := by
  have H := Lib.hid h
  clear h
  have HE := Lib.hid hE
  have hwf := H.out.2.2
  have ha : s.asking = false := by
    unfold US.wf at hwf
    rcases hwf.2.2.2.2.2.2.2.2.1 with h | h
    · exact h
    · exact absurd h.1 ht
  have HA := Lib.hid ha
  have q0 : (s.tei != -1) = true := by simpa using ht
  have q1 : ((127 : Int) == s.tei) = false := by simpa using h127
  clear hE hwf ha
  go_enter Tryd.func22, Tryd.ntmps22
  go_wp2_with ((go_at_call 45; refine (put_msg _ _ _ _).mono ?_; rintro e w1 ⟨x, rfl, bb, hl0, m0, m1, m2⟩; rw [HE.out]; have hu1 := H.out.below bb; have hlg := hu1.lt; have hgw := H.out.lt; have hgn : w.heap.size ≠ g := (by omega); obtain ⟨c0, c1, c2, c3, -, c5⟩ := hu1.cells; obtain ⟨f0, f1, f2, f3⟩ := hu1.free; rw [HA.out] at c1;  have HU1 := Lib.hid hu1; have BB := Lib.hid bb; clear hu1 bb))
  go_ret
  exact ⟨_, rfl, Efs.nil _ _, HU1.out.below ((Below.refl _ _).alloc (Nat.le_refl _) _), (Only.of_below BB.out _).alloc _⟩


set_option maxHeartbeats 1000000 in
theorem message_o4 {g : Nat} {D : Dr} {most : Int} {s : US} {p : Pn} (t ri ai : Int) (w : World) (h : UAt w g D most s p) (hE : putE t ri ai = 0) (ht : ¬ s.tei = -1) (hn : ¬ ai = s.tei) (_h127 : ¬ ai = 127) (h2 : ¬ t = 2) (h4 : ¬ t = 4) (h6 : ¬ t = 6) :
    Calls Tryd.prog 22 #[.pointer (some ⟨g, 0, none⟩), .agg #[.int .i64 t, .int .i64 ri, .int .i64 ai]] w fun e w' => ∃ v, e = .returned v ∧ Done w g D most ⟨[], 0, s, p⟩ v w' := by
  have H := Lib.hid h
  clear h
  have HE := Lib.hid hE
  have hwf := H.out.2.2
  have ha : s.asking = false := by
    unfold US.wf at hwf
    rcases hwf.2.2.2.2.2.2.2.2.1 with h | h
    · exact h
    · exact absurd h.1 ht
  have HA := Lib.hid ha
  have q0 : (s.tei != -1) = true := by simpa using ht
  have q2 : (ai == s.tei) = false := by simpa using hn
  clear hE hwf ha
  go_enter Tryd.func22, Tryd.ntmps22
  go_wp2_with ((go_at_call 45; refine (put_msg _ _ _ _).mono ?_; rintro e w1 ⟨x, rfl, bb, hl0, m0, m1, m2⟩; rw [HE.out]; have hu1 := H.out.below bb; have hlg := hu1.lt; have hgw := H.out.lt; have hgn : w.heap.size ≠ g := (by omega); obtain ⟨c0, c1, c2, c3, -, c5⟩ := hu1.cells; obtain ⟨f0, f1, f2, f3⟩ := hu1.free; rw [HA.out] at c1;  have HU1 := Lib.hid hu1; have BB := Lib.hid bb; clear hu1 bb))
  go_ret
  exact ⟨_, rfl, Efs.nil _ _, HU1.out.below ((Below.refl _ _).alloc (Nat.le_refl _) _), (Only.of_below BB.out _).alloc _⟩


set_option maxHeartbeats 1000000 in
theorem message_a1 {g : Nat} {D : Dr} {most : Int} {s : US} {p : Pn} (ri ai : Int) (w : World) (h : UAt w g D most s p) (hE : putE 2 ri ai = 0) (ht : s.tei = -1) (ha : s.asking = false) :
    Calls Tryd.prog 22 #[.pointer (some ⟨g, 0, none⟩), .agg #[.int .i64 2, .int .i64 ri, .int .i64 ai]] w fun e w' => ∃ v, e = .returned v ∧ Done w g D most ⟨[], 0, s, p⟩ v w' := by
  have H := Lib.hid h
  clear h
  have HE := Lib.hid hE
  have hwf := H.out.2.2
  have HT := Lib.hid ht
  have HA := Lib.hid ha
  clear hE hwf ht ha
  go_enter Tryd.func22, Tryd.ntmps22
  go_wp2_with ((go_at_call 45; refine (put_msg _ _ _ _).mono ?_; rintro e w1 ⟨x, rfl, bb, hl0, m0, m1, m2⟩; rw [HE.out]; have hu1 := H.out.below bb; have hlg := hu1.lt; have hgw := H.out.lt; have hgn : w.heap.size ≠ g := (by omega); obtain ⟨c0, c1, c2, c3, -, c5⟩ := hu1.cells; obtain ⟨f0, f1, f2, f3⟩ := hu1.free; rw [HT.out] at c0; rw [HA.out] at c1;  have HU1 := Lib.hid hu1; have BB := Lib.hid bb; clear hu1 bb))
  go_ret
  exact ⟨_, rfl, Efs.nil _ _, HU1.out.below ((Below.refl _ _).alloc (Nat.le_refl _) _), (Only.of_below BB.out _).alloc _⟩


set_option maxHeartbeats 1000000 in
theorem message_a2 {g : Nat} {D : Dr} {most : Int} {s : US} {p : Pn} (ri ai : Int) (w : World) (h : UAt w g D most s p) (hE : putE 2 ri ai = 0) (ht : s.tei = -1) (ha : s.asking = true) (hr : ¬ ri = s.ri) :
    Calls Tryd.prog 22 #[.pointer (some ⟨g, 0, none⟩), .agg #[.int .i64 2, .int .i64 ri, .int .i64 ai]] w fun e w' => ∃ v, e = .returned v ∧ Done w g D most ⟨[], 0, s, p⟩ v w' := by
  have H := Lib.hid h
  clear h
  have HE := Lib.hid hE
  have hwf := H.out.2.2
  have HT := Lib.hid ht
  have HA := Lib.hid ha
  have q4 : (ri == s.ri) = false := by simpa using hr
  clear hE hwf ht ha
  go_enter Tryd.func22, Tryd.ntmps22
  go_wp2_with ((go_at_call 45; refine (put_msg _ _ _ _).mono ?_; rintro e w1 ⟨x, rfl, bb, hl0, m0, m1, m2⟩; rw [HE.out]; have hu1 := H.out.below bb; have hlg := hu1.lt; have hgw := H.out.lt; have hgn : w.heap.size ≠ g := (by omega); obtain ⟨c0, c1, c2, c3, -, c5⟩ := hu1.cells; obtain ⟨f0, f1, f2, f3⟩ := hu1.free; rw [HT.out] at c0; rw [HA.out] at c1;  have HU1 := Lib.hid hu1; have BB := Lib.hid bb; clear hu1 bb))
  go_ret
  exact ⟨_, rfl, Efs.nil _ _, HU1.out.below ((Below.refl _ _).alloc (Nat.le_refl _) _), (Only.of_below BB.out _).alloc _⟩


set_option maxHeartbeats 1000000 in
theorem message_a3 {g : Nat} {D : Dr} {most : Int} {s : US} {p : Pn} (ai : Int) (w : World) (h : UAt w g D most s p) (hE : putE 2 s.ri ai = 0) (ht : s.tei = -1) (ha : s.asking = true) (hx : ai < 64 ∨ 126 < ai) :
    Calls Tryd.prog 22 #[.pointer (some ⟨g, 0, none⟩), .agg #[.int .i64 2, .int .i64 s.ri, .int .i64 ai]] w fun e w' => ∃ v, e = .returned v ∧ Done w g D most ⟨[], 0, s, p⟩ v w' := by
  have H := Lib.hid h
  clear h
  have HE := Lib.hid hE
  have hwf := H.out.2.2
  have HT := Lib.hid ht
  have HA := Lib.hid ha
  have hk : (if ai < 0 ∨ 127 < ai then (0 : Int) else if ai < 64 then 1 else if ai ≤ 126 then 2 else 3) = kkk ai := rfl
  have hk2 : ¬ kkk ai = 2 := by unfold kkk; repeat (first | split | omega)
  have HK := Lib.hid hk
  clear hE hwf ht ha hk
  go_enter Tryd.func22, Tryd.ntmps22
  go_wp2_with (first | (go_at_call 45; refine (put_msg _ _ _ _).mono ?_; rintro e w1 ⟨x, rfl, bb, hl0, m0, m1, m2⟩; rw [HE.out]; have hu1 := H.out.below bb; have hlg := hu1.lt; have hgw := H.out.lt; have hgn : w.heap.size ≠ g := (by omega); obtain ⟨c0, c1, c2, c3, -, c5⟩ := hu1.cells; obtain ⟨f0, f1, f2, f3⟩ := hu1.free; rw [HT.out] at c0; rw [HA.out] at c1;  have HU1 := Lib.hid hu1; have BB := Lib.hid bb; clear hu1 bb) | (go_at_call 46; refine (kindOf_any _ _).mono ?_; rintro e w2 ⟨rfl, rfl⟩; rw [HK.out]))
  go_ret
  exact ⟨_, rfl, Efs.nil _ _, HU1.out.below ((Below.refl _ _).alloc (Nat.le_refl _) _), (Only.of_below BB.out _).alloc _⟩


set_option maxHeartbeats 1000000 in
theorem message_a4 {g : Nat} {D : Dr} {most : Int} {s : US} {p : Pn} (ri : Int) (w : World) (h : UAt w g D most s p) (hE : putE 2 ri 127 = 0) (ht : ¬ s.tei = -1) (h127 : ¬ (127 : Int) = s.tei) :
    Calls Tryd.prog 22 #[.pointer (some ⟨g, 0, none⟩), .agg #[.int .i64 2, .int .i64 ri, .int .i64 127]] w fun e w' => ∃ v, e = .returned v ∧ Done w g D most ⟨[], 0, s, p⟩ v w' := by
  have H := Lib.hid h
  clear h
  have HE := Lib.hid hE
  have hwf := H.out.2.2
  have ha : s.asking = false := by
    unfold US.wf at hwf
    rcases hwf.2.2.2.2.2.2.2.2.1 with h | h
    · exact h
    · exact absurd h.1 ht
  have HA := Lib.hid ha
  have q0 : (s.tei != -1) = true := by simpa using ht
  have q1 : ((127 : Int) == s.tei) = false := by simpa using h127
  clear hE hwf ha
  go_enter Tryd.func22, Tryd.ntmps22
  go_wp2_with ((go_at_call 45; refine (put_msg _ _ _ _).mono ?_; rintro e w1 ⟨x, rfl, bb, hl0, m0, m1, m2⟩; rw [HE.out]; have hu1 := H.out.below bb; have hlg := hu1.lt; have hgw := H.out.lt; have hgn : w.heap.size ≠ g := (by omega); obtain ⟨c0, c1, c2, c3, -, c5⟩ := hu1.cells; obtain ⟨f0, f1, f2, f3⟩ := hu1.free; rw [HA.out] at c1;  have HU1 := Lib.hid hu1; have BB := Lib.hid bb; clear hu1 bb))
  go_ret
  exact ⟨_, rfl, Efs.nil _ _, HU1.out.below ((Below.refl _ _).alloc (Nat.le_refl _) _), (Only.of_below BB.out _).alloc _⟩


set_option maxHeartbeats 1000000 in
theorem message_a5 {g : Nat} {D : Dr} {most : Int} {s : US} {p : Pn} (ri ai : Int) (w : World) (h : UAt w g D most s p) (hE : putE 2 ri ai = 0) (ht : ¬ s.tei = -1) (hn : ¬ ai = s.tei) (h127 : ¬ ai = 127) :
    Calls Tryd.prog 22 #[.pointer (some ⟨g, 0, none⟩), .agg #[.int .i64 2, .int .i64 ri, .int .i64 ai]] w fun e w' => ∃ v, e = .returned v ∧ Done w g D most ⟨[], 0, s, p⟩ v w' := by
  have H := Lib.hid h
  clear h
  have HE := Lib.hid hE
  have hwf := H.out.2.2
  have ha : s.asking = false := by
    unfold US.wf at hwf
    rcases hwf.2.2.2.2.2.2.2.2.1 with h | h
    · exact h
    · exact absurd h.1 ht
  have HA := Lib.hid ha
  have q0 : (s.tei != -1) = true := by simpa using ht
  have q2 : (ai == s.tei) = false := by simpa using hn
  have q3 : (ai == 127) = false := by simpa using h127
  clear hE hwf ha
  go_enter Tryd.func22, Tryd.ntmps22
  go_wp2_with ((go_at_call 45; refine (put_msg _ _ _ _).mono ?_; rintro e w1 ⟨x, rfl, bb, hl0, m0, m1, m2⟩; rw [HE.out]; have hu1 := H.out.below bb; have hlg := hu1.lt; have hgw := H.out.lt; have hgn : w.heap.size ≠ g := (by omega); obtain ⟨c0, c1, c2, c3, -, c5⟩ := hu1.cells; obtain ⟨f0, f1, f2, f3⟩ := hu1.free; rw [HA.out] at c1;  have HU1 := Lib.hid hu1; have BB := Lib.hid bb; clear hu1 bb))
  go_ret
  exact ⟨_, rfl, Efs.nil _ _, HU1.out.below ((Below.refl _ _).alloc (Nat.le_refl _) _), (Only.of_below BB.out _).alloc _⟩


set_option maxHeartbeats 1000000 in
theorem message_b41 {g : Nat} {D : Dr} {most : Int} {s : US} {p : Pn} (ri ai : Int) (w : World) (h : UAt w g D most s p) (hE : putE 4 ri ai = 0) (ht : s.tei = -1) :
    Calls Tryd.prog 22 #[.pointer (some ⟨g, 0, none⟩), .agg #[.int .i64 4, .int .i64 ri, .int .i64 ai]] w fun e w' => ∃ v, e = .returned v ∧ Done w g D most ⟨[], 0, s, p⟩ v w' := by
  have H := Lib.hid h
  clear h
  have HE := Lib.hid hE
  have hwf := H.out.2.2
  have HT := Lib.hid ht
  clear hE hwf ht
  go_enter Tryd.func22, Tryd.ntmps22
  go_wp2_with ((go_at_call 45; refine (put_msg _ _ _ _).mono ?_; rintro e w1 ⟨x, rfl, bb, hl0, m0, m1, m2⟩; rw [HE.out]; have hu1 := H.out.below bb; have hlg := hu1.lt; have hgw := H.out.lt; have hgn : w.heap.size ≠ g := (by omega); obtain ⟨c0, c1, c2, c3, -, c5⟩ := hu1.cells; obtain ⟨f0, f1, f2, f3⟩ := hu1.free; rw [HT.out] at c0;  have HU1 := Lib.hid hu1; have BB := Lib.hid bb; clear hu1 bb))
  go_ret
  exact ⟨_, rfl, Efs.nil _ _, HU1.out.below ((Below.refl _ _).alloc (Nat.le_refl _) _), (Only.of_below BB.out _).alloc _⟩


set_option maxHeartbeats 1000000 in
theorem message_b42 {g : Nat} {D : Dr} {most : Int} {s : US} {p : Pn} (ri ai : Int) (w : World) (h : UAt w g D most s p) (hE : putE 4 ri ai = 0) (ht : ¬ s.tei = -1) (hn : ¬ ai = s.tei) (h127 : ¬ ai = 127) :
    Calls Tryd.prog 22 #[.pointer (some ⟨g, 0, none⟩), .agg #[.int .i64 4, .int .i64 ri, .int .i64 ai]] w fun e w' => ∃ v, e = .returned v ∧ Done w g D most ⟨[], 0, s, p⟩ v w' := by
  have H := Lib.hid h
  clear h
  have HE := Lib.hid hE
  have hwf := H.out.2.2
  have ha : s.asking = false := by
    unfold US.wf at hwf
    rcases hwf.2.2.2.2.2.2.2.2.1 with h | h
    · exact h
    · exact absurd h.1 ht
  have HA := Lib.hid ha
  have q0 : (s.tei != -1) = true := by simpa using ht
  have q2 : (ai == s.tei) = false := by simpa using hn
  have q3 : (ai == 127) = false := by simpa using h127
  clear hE hwf ha
  go_enter Tryd.func22, Tryd.ntmps22
  go_wp2_with ((go_at_call 45; refine (put_msg _ _ _ _).mono ?_; rintro e w1 ⟨x, rfl, bb, hl0, m0, m1, m2⟩; rw [HE.out]; have hu1 := H.out.below bb; have hlg := hu1.lt; have hgw := H.out.lt; have hgn : w.heap.size ≠ g := (by omega); obtain ⟨c0, c1, c2, c3, -, c5⟩ := hu1.cells; obtain ⟨f0, f1, f2, f3⟩ := hu1.free; rw [HA.out] at c1;  have HU1 := Lib.hid hu1; have BB := Lib.hid bb; clear hu1 bb))
  go_ret
  exact ⟨_, rfl, Efs.nil _ _, HU1.out.below ((Below.refl _ _).alloc (Nat.le_refl _) _), (Only.of_below BB.out _).alloc _⟩


set_option maxHeartbeats 1000000 in
theorem message_b61 {g : Nat} {D : Dr} {most : Int} {s : US} {p : Pn} (ri ai : Int) (w : World) (h : UAt w g D most s p) (hE : putE 6 ri ai = 0) (ht : s.tei = -1) :
    Calls Tryd.prog 22 #[.pointer (some ⟨g, 0, none⟩), .agg #[.int .i64 6, .int .i64 ri, .int .i64 ai]] w fun e w' => ∃ v, e = .returned v ∧ Done w g D most ⟨[], 0, s, p⟩ v w' := by
  have H := Lib.hid h
  clear h
  have HE := Lib.hid hE
  have hwf := H.out.2.2
  have HT := Lib.hid ht
  clear hE hwf ht
  go_enter Tryd.func22, Tryd.ntmps22
  go_wp2_with ((go_at_call 45; refine (put_msg _ _ _ _).mono ?_; rintro e w1 ⟨x, rfl, bb, hl0, m0, m1, m2⟩; rw [HE.out]; have hu1 := H.out.below bb; have hlg := hu1.lt; have hgw := H.out.lt; have hgn : w.heap.size ≠ g := (by omega); obtain ⟨c0, c1, c2, c3, -, c5⟩ := hu1.cells; obtain ⟨f0, f1, f2, f3⟩ := hu1.free; rw [HT.out] at c0;  have HU1 := Lib.hid hu1; have BB := Lib.hid bb; clear hu1 bb))
  go_ret
  exact ⟨_, rfl, Efs.nil _ _, HU1.out.below ((Below.refl _ _).alloc (Nat.le_refl _) _), (Only.of_below BB.out _).alloc _⟩


set_option maxHeartbeats 1000000 in
theorem message_b62 {g : Nat} {D : Dr} {most : Int} {s : US} {p : Pn} (ri ai : Int) (w : World) (h : UAt w g D most s p) (hE : putE 6 ri ai = 0) (ht : ¬ s.tei = -1) (hn : ¬ ai = s.tei) (h127 : ¬ ai = 127) :
    Calls Tryd.prog 22 #[.pointer (some ⟨g, 0, none⟩), .agg #[.int .i64 6, .int .i64 ri, .int .i64 ai]] w fun e w' => ∃ v, e = .returned v ∧ Done w g D most ⟨[], 0, s, p⟩ v w' := by
  have H := Lib.hid h
  clear h
  have HE := Lib.hid hE
  have hwf := H.out.2.2
  have ha : s.asking = false := by
    unfold US.wf at hwf
    rcases hwf.2.2.2.2.2.2.2.2.1 with h | h
    · exact h
    · exact absurd h.1 ht
  have HA := Lib.hid ha
  have q0 : (s.tei != -1) = true := by simpa using ht
  have q2 : (ai == s.tei) = false := by simpa using hn
  have q3 : (ai == 127) = false := by simpa using h127
  clear hE hwf ha
  go_enter Tryd.func22, Tryd.ntmps22
  go_wp2_with ((go_at_call 45; refine (put_msg _ _ _ _).mono ?_; rintro e w1 ⟨x, rfl, bb, hl0, m0, m1, m2⟩; rw [HE.out]; have hu1 := H.out.below bb; have hlg := hu1.lt; have hgw := H.out.lt; have hgn : w.heap.size ≠ g := (by omega); obtain ⟨c0, c1, c2, c3, -, c5⟩ := hu1.cells; obtain ⟨f0, f1, f2, f3⟩ := hu1.free; rw [HA.out] at c1;  have HU1 := Lib.hid hu1; have BB := Lib.hid bb; clear hu1 bb))
  go_ret
  exact ⟨_, rfl, Efs.nil _ _, HU1.out.below ((Below.refl _ _).alloc (Nat.le_refl _) _), (Only.of_below BB.out _).alloc _⟩

end Go.Proofs.YtlfcfmdblmedcaaDoor.Mine
