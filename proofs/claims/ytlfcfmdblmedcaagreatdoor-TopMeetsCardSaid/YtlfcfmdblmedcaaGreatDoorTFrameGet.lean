/- The contract of frame.Get. Written by fgetgen.py. -/
import Derived.Test.YtlfcfmdblmedcaaGreatDoorTFrameF
namespace Go.Proofs.YtlfcfmdblmedcaaGreatDoor.Mine
open Go.RowKit Go.Proofs.YtlfcfmdblmedcaaGreatDoorW.PrintWords
attribute [local go_sem] max_int min_int max_of_two min_of_two

theorem command_any (sapi tei : Int) (cr n : Bool) (w : World) :
    Calls Tryz.prog 64 #[.agg #[.int .i64 sapi, .int .i64 tei, .bool cr], .bool n] w fun e w' => e = .returned (.bool (cr == n)) ∧ Below w.heap.size w w' := by
  go_enter Tryz.func64, Tryz.ntmps64
  go_wp2
  go_ret
  exact ⟨rfl, (Below.refl _ _).alloc (Nat.le_refl _) _⟩

def FramePost (w : World) (d : FR) (e : Ending) (w' : World) : Prop :=
  e = .returned (.tuple #[.agg #[.int .i64 d.sapi, .int .i64 d.tei, .bool d.cmd, .int .i64 d.kind, .bool d.pf, .int .i64 d.ns, .int .i64 d.nr, .string (strOfNums d.info)], .int .i64 d.err]) ∧ Below w.heap.size w w'

theorem addrF_len {l : List Int} (h : (addrF l).2.2.2 = 0) : 2 ≤ l.length := by
  unfold addrF at h
  by_cases q : l.length < 2
  · rw [if_pos q] at h; simp at h
  · omega
theorem ctrlF_len {l : List Int} (h : (ctrlF l).err = 0) : ((ctrlF l).n = 1 ∧ 1 ≤ l.length) ∨ ((ctrlF l).n = 2 ∧ 2 ≤ l.length) := by
  unfold ctrlF at h ⊢
  split at h
  · simp at h
  · rename_i q0
    split at h
    · simp at h
    · rename_i q1
      split at h
      · rename_i q2
        rw [if_neg q0, if_neg q1, if_pos q2]
        exact Or.inl ⟨rfl, by omega⟩
      · rename_i q2
        split at h
        · simp at h
        · rename_i q3
          rw [if_neg q0, if_neg q1, if_neg q2, if_neg q3]
          exact Or.inr ⟨rfl, by omega⟩
theorem check_sub (l : List Int) : ∀ x ∈ (checkL l).1, x ∈ l := by
  intro x hx
  unfold checkL at hx
  split at hx
  · simp at hx
  · split at hx
    · exact List.mem_of_mem_take hx
    · simp at hx
set_option maxHeartbeats 2000000 in
theorem box8_last {w : World} {b : Nat} {a0 a1 a2 a3 a4 a5 a6 a7 x0 x1 x2 x3 x4 x5 x6 x7 : Value} {T : TypeId} (h : w.heap[b]? = some (.cells #[a0, a1, a2, a3, a4, a5, a6, a7] T (0, 0))) :
    ((((((((w.setCell ⟨b, 0, none⟩ x0).setCell ⟨b, 1, none⟩ x1).setCell ⟨b, 2, none⟩ x2).setCell ⟨b, 3, none⟩ x3).setCell ⟨b, 4, none⟩ x4).setCell ⟨b, 5, none⟩ x5).setCell ⟨b, 6, none⟩ x6).setCell ⟨b, 7, none⟩ x7).heap[b]? = some (.cells #[x0, x1, x2, x3, x4, x5, x6, x7] T (0, 0)) := by
  rw [at_set (at_set (at_set (at_set (at_set (at_set (at_set (at_set h 0 _) 1 _) 2 _) 3 _) 4 _) 5 _) 6 _) 7 _]; simp
set_option maxHeartbeats 2000000 in
theorem box8_below {w wc : World} {b : Nat} {x0 x1 x2 x3 x4 x5 x6 x7 : Value} (h : Below b w wc) : Below b w ((((((((wc.setCell ⟨b, 0, none⟩ x0).setCell ⟨b, 1, none⟩ x1).setCell ⟨b, 2, none⟩ x2).setCell ⟨b, 3, none⟩ x3).setCell ⟨b, 4, none⟩ x4).setCell ⟨b, 5, none⟩ x5).setCell ⟨b, 6, none⟩ x6).setCell ⟨b, 7, none⟩ x7) :=
  (((((((h.setCell (Nat.le_refl _) _).setCell (Nat.le_refl _) _).setCell (Nat.le_refl _) _).setCell (Nat.le_refl _) _).setCell (Nat.le_refl _) _).setCell (Nat.le_refl _) _).setCell (Nat.le_refl _) _).setCell (Nat.le_refl _) _

set_option maxHeartbeats 4000000 in
set_option maxRecDepth 100000 in
theorem frameget_any (s : ByteArray) (w : World) (hs : s.size ≤ 10000000) (hT : Tabs w) :
    Calls Tryz.prog 31 #[.string s, .bool false] w (FramePost w (frameF (bytesOf s))) := by
  obtain ⟨F, hF⟩ : ∃ F, frameF (bytesOf s) = F := ⟨_, rfl⟩
  rw [hF]
  unfold frameF at hF
  have hck := check_any s (w.alloc (.cells #[.int .i64 0, .int .i64 0, .bool false, .int .i64 0, .bool false, .int .i64 0, .int .i64 0, .string ⟨#[]⟩] 66)) hs
  have hsub := check_sub (bytesOf s)
  have hbx := at_new w (.cells #[.int .i64 0, .int .i64 0, .bool false, .int .i64 0, .bool false, .int .i64 0, .int .i64 0, .string ⟨#[]⟩] 66)
  have hbel : Below w.heap.size w (w.alloc (.cells #[.int .i64 0, .int .i64 0, .bool false, .int .i64 0, .bool false, .int .i64 0, .int .i64 0, .string ⟨#[]⟩] 66)) := (Below.refl _ _).alloc (Nat.le_refl _) _
  have hT0 := hT.below hbel
  obtain ⟨⟨c1, c2⟩, hc⟩ : ∃ c, checkL (bytesOf s) = c := ⟨_, rfl⟩
  rw [hc] at hF hck hsub
  dsimp only at hF hck hsub
  have hcr : ∀ x ∈ c1, 0 ≤ x ∧ x ≤ 255 := fun x hx => bytes_range s x (hsub x hx)
  have hcb := bytesOf_str c1 hcr
  obtain ⟨y, hy⟩ : ∃ y, strOfNums c1 = y := ⟨_, rfl⟩
  rw [hy] at hck hcb
  have hcl : c1.length = y.size := by rw [← hy, strOfNums_size]
  have hysz : y.size ≤ 10000000 := by
    rw [← hcl]
    have h1 : c1.length ≤ (bytesOf s).length := by
      have h2 : c1 = (checkL (bytesOf s)).1 := by rw [hc]
      rw [h2]
      unfold checkL
      split
      · simp
      · split
        · rw [List.length_take]; exact Nat.min_le_right _ _
        · simp
    rw [bytesOf_length] at h1
    omega
  have HCK := Lib.hid hck
  have HX := Lib.hid hbx
  have HB := Lib.hid hbel
  have HT := Lib.hid hT0
  have HCB := Lib.hid hcb
  have HY := Lib.hid hy
  have HCL := Lib.hid hcl
  clear hck hsub hbx hbel hT0 hT hc hcr hcb hy hcl
  have hag := fun W => addrget_any y W hysz
  rw [HCB.out] at hag
  obtain ⟨⟨sapi, tei, cr, ae⟩, ha⟩ : ∃ a, addrF c1 = a := ⟨_, rfl⟩
  rw [ha] at hF hag
  dsimp only at hF hag
  have hal : ae = 0 → 2 ≤ c1.length := fun q => addrF_len (by rw [ha]; exact q)
  have HAG := Lib.hid hag
  have HF := Lib.hid hF
  have HAL := Lib.hid hal
  clear hag ha hF hal
  go_enter Tryz.func31, Tryz.ntmps31
  go_wp2_with fail
  refine HCK.out.mono ?_
  rintro e w1 ⟨rfl, b1⟩
  have hx1 := (b1.block _ (lt_of_at HX.out)).trans HX.out
  have HX1 := Lib.hid hx1
  have HB1 := Lib.hid (HB.out.trans (b1.mono HB.out.size))
  have HT1 := Lib.hid (HT.out.below b1)
  clear b1
  by_cases hc0 : c2 = 0
  · subst hc0
    clear hx1
    go_wp2_with fail
    refine (HAG.out _).mono ?_
    rintro e w2 ⟨rfl, b2⟩
    have hx2 := (b2.block _ (lt_of_at HX1.out)).trans HX1.out
    have hba := at_new w2 (.cells #[.int .i64 sapi, .int .i64 tei, .bool cr] 119)
    have HB2 := Lib.hid ((HB1.out.trans (b2.mono HB1.out.size)).alloc (HB1.out.trans (b2.mono HB1.out.size)).size (.cells #[.int .i64 sapi, .int .i64 tei, .bool cr] 119))
    have HT2 := Lib.hid ((HT1.out.below b2).below ((Below.refl _ _).alloc (Nat.le_refl _) (.cells #[.int .i64 sapi, .int .i64 tei, .bool cr] 119)))
    have HXW := Lib.hid hx2
    have HBW := Lib.hid (HB1.out.trans (b2.mono HB1.out.size))
    have HX2 := Lib.hid (at_alloc hx2 (.cells #[.int .i64 sapi, .int .i64 tei, .bool cr] 119))
    have HBA := Lib.hid hba
    clear b2 hba
    by_cases ha0 : ae = 0
    · have h2 := HAL.out ha0
      subst ha0
      have hd2 : y.extract 2 y.size = strOfNums (c1.drop 2) := by rw [drop_str, HCB.out]
      have hdb : bytesOf (strOfNums (c1.drop 2)) = c1.drop 2 := bytesOf_str _ (fun x hx => by
        have := bytes_range y x (by rw [HCB.out]; exact List.mem_of_mem_drop hx); exact this)
      have hds : (strOfNums (c1.drop 2)).size ≤ 10000000 := by rw [strOfNums_size, List.length_drop, HCL.out]; omega
      have hcg := fun W hW => ctrlget_any (strOfNums (c1.drop 2)) W hds hW
      rw [hdb] at hcg
      obtain ⟨y2, hy2⟩ : ∃ y2, strOfNums (c1.drop 2) = y2 := ⟨_, rfl⟩
      rw [hy2] at hd2 hcg
      have hlen2 : 2 ≤ y.size := by rw [← HCL.out]; exact h2
      have hcl := @ctrlF_len (c1.drop 2)
      have hF := HF.out
      obtain ⟨⟨kd, pf, ns, nr, n, de⟩, hd⟩ : ∃ d, ctrlF (c1.drop 2) = d := ⟨_, rfl⟩
      rw [hd] at hF hcg hcl
      dsimp only at hF hcg hcl
      have HF2 := Lib.hid hF
      have HCG := Lib.hid hcg
      have HDL := Lib.hid hcl
      clear hdb hds hcg hy2 hd hF hcl h2
      clear hx2
      go_wp2_with fail
      refine (HCG.out _ HT2.out).mono ?_
      rintro e w3 ⟨rfl, b3⟩
      have hx3 := (b3.block _ (lt_of_at HX2.out)).trans HX2.out
      have ha3 := (b3.block _ (lt_of_at HBA.out)).trans HBA.out
      have u0 := at_cell ha3 0
      have u1 := at_cell ha3 1
      have u2 := at_cell ha3 2
      simp at u0 u1 u2
      have ul := lt_of_at ha3
      have hbc := at_new w3 (.cells #[.int .i64 kd, .bool pf, .int .i64 ns, .int .i64 nr] 116)
      have HB3 := Lib.hid ((HB2.out.trans (b3.mono HB2.out.size)).alloc (HB2.out.trans (b3.mono HB2.out.size)).size (.cells #[.int .i64 kd, .bool pf, .int .i64 ns, .int .i64 nr] 116))
      have HT3 := Lib.hid ((HT2.out.below b3).below ((Below.refl _ _).alloc (Nat.le_refl _) (.cells #[.int .i64 kd, .bool pf, .int .i64 ns, .int .i64 nr] 116)))
      have HX3 := Lib.hid (at_alloc hx3 (.cells #[.int .i64 kd, .bool pf, .int .i64 ns, .int .i64 nr] 116))
      have HA3 := Lib.hid (at_alloc ha3 (.cells #[.int .i64 kd, .bool pf, .int .i64 ns, .int .i64 nr] 116))
      have HBC := Lib.hid hbc
      clear b3 hbc hx3 ha3
      go_wp2_with fail
      refine (command_any _ _ _ _ _).mono ?_
      rintro e w4 ⟨rfl, b4⟩
      clear u0 u1 u2 ul
      have hx4 := (b4.block _ (lt_of_at HX3.out)).trans HX3.out
      have ha4 := (b4.block _ (lt_of_at HA3.out)).trans HA3.out
      have hc4 := (b4.block _ (lt_of_at HBC.out)).trans HBC.out
      have HB4 := Lib.hid (HB3.out.trans (b4.mono HB3.out.size))
      have HT4 := Lib.hid (HT3.out.below b4)
      have HX4 := Lib.hid hx4
      have u0 := at_cell ha4 0
      have u1 := at_cell ha4 1
      have v0 := at_cell hc4 0
      have v1 := at_cell hc4 1
      have v2 := at_cell hc4 2
      have v3 := at_cell hc4 3
      simp at u0 u1 v0 v1 v2 v3
      have p0 := at_cell hx4 0
      have p1 := at_cell hx4 1
      have p2 := at_cell hx4 2
      have p3 := at_cell hx4 3
      have p4 := at_cell hx4 4
      have p5 := at_cell hx4 5
      have p6 := at_cell hx4 6
      have p7 := at_cell hx4 7
      have z0 := at_frozen hx4 0
      have z1 := at_frozen hx4 1
      have z2 := at_frozen hx4 2
      have z3 := at_frozen hx4 3
      have z4 := at_frozen hx4 4
      have z5 := at_frozen hx4 5
      have z6 := at_frozen hx4 6
      have z7 := at_frozen hx4 7
      simp at p0 p1 p2 p3 p4 p5 p6 p7
      clear b4 hx4 ha4 hc4
      by_cases hd0 : de = 0
      · have hn := HDL.out hd0
        subst hd0
        rw [List.length_drop] at hn
        have hinfo : y.extract (2 + n.toNat) y.size = strOfNums (c1.drop (2 + n.toNat)) := by rw [drop_str, HCB.out]
        have hil : (strOfNums (c1.drop (2 + n.toNat))).size = (c1.drop (2 + n.toNat)).length := strOfNums_size _
        obtain ⟨z, hz⟩ : ∃ z, strOfNums (c1.drop (2 + n.toNat)) = z := ⟨_, rfl⟩
        rw [hz] at hinfo hil
        have hF := HF2.out
        rw [if_neg (by simp), if_neg (by simp), if_neg (by simp), ← hil] at hF
        have hn12 : n = 1 ∨ n = 2 := by omega
        have hnl : 2 + n ≤ (y.size : Int) := by have := HCL.out; omega
        have HNN := Lib.hid hn12
        have HZ := Lib.hid hz
        have HF3 := Lib.hid hF
        clear hn hil hz hn12 hF
        rcases HNN.out with rfl | rfl
        · have hi3 : y.extract 3 y.size = z := hinfo
          clear hinfo
          go_wp2_with fail
          refine (may_any _ _ _).mono ?_
          rintro e w5 ⟨rfl, rfl⟩
          by_cases hm : mayF kd (!cr) = false
          · have hF := HF3.out
            rw [if_pos hm] at hF
            subst hF
            rw [hm]
            clear hm
            go_wp2
            have hl := box8_last (x0 := .int .i64 0) (x1 := .int .i64 0) (x2 := .bool false) (x3 := .int .i64 0) (x4 := .bool false) (x5 := .int .i64 0) (x6 := .int .i64 0) (x7 := .string ⟨#[]⟩) HX4.out
            have hb8 := box8_below (x0 := .int .i64 0) (x1 := .int .i64 0) (x2 := .bool false) (x3 := .int .i64 0) (x4 := .bool false) (x5 := .int .i64 0) (x6 := .int .i64 0) (x7 := .string ⟨#[]⟩) HB4.out
            generalize hW : ((((((((w4.setCell ⟨w.heap.size, 0, none⟩ (.int .i64 0)).setCell ⟨w.heap.size, 1, none⟩ (.int .i64 0)).setCell ⟨w.heap.size, 2, none⟩ (.bool false)).setCell ⟨w.heap.size, 3, none⟩ (.int .i64 0)).setCell ⟨w.heap.size, 4, none⟩ (.bool false)).setCell ⟨w.heap.size, 5, none⟩ (.int .i64 0)).setCell ⟨w.heap.size, 6, none⟩ (.int .i64 0)).setCell ⟨w.heap.size, 7, none⟩ (.string ⟨#[]⟩)) = W at hl hb8 ⊢
            clear hW
            refine bodyPost_ret (results_ct rfl _ _ w.heap.size 66 #[.int .i64 0, .int .i64 0, .bool false, .int .i64 0, .bool false, .int .i64 0, .int .i64 0, .string ⟨#[]⟩] (0, 0) _ rfl hl Tryz.underlying66 rfl (by kernel_rfl)) rfl ?_
            exact ⟨rfl, hb8⟩
          · have hF := HF3.out
            rw [if_neg hm] at hF
            have hm' : mayF kd (!cr) = true := by simpa using hm
            rw [hm']
            have HF4 := Lib.hid hF
            clear hm hm' hF
            go_wp2_with fail
            refine (carries_any _ _ _ HT4.out).mono ?_
            rintro e w6 ⟨rfl, rfl⟩
            by_cases hcar : carriesF kd (z.size : Int) = false
            · have hF := HF4.out
              rw [if_pos hcar] at hF
              subst hF
              rw [hcar]
              clear hcar
              go_wp2
              have hl := box8_last (x0 := .int .i64 0) (x1 := .int .i64 0) (x2 := .bool false) (x3 := .int .i64 0) (x4 := .bool false) (x5 := .int .i64 0) (x6 := .int .i64 0) (x7 := .string ⟨#[]⟩) HX4.out
              have hb8 := box8_below (x0 := .int .i64 0) (x1 := .int .i64 0) (x2 := .bool false) (x3 := .int .i64 0) (x4 := .bool false) (x5 := .int .i64 0) (x6 := .int .i64 0) (x7 := .string ⟨#[]⟩) HB4.out
              generalize hW : ((((((((w4.setCell ⟨w.heap.size, 0, none⟩ (.int .i64 0)).setCell ⟨w.heap.size, 1, none⟩ (.int .i64 0)).setCell ⟨w.heap.size, 2, none⟩ (.bool false)).setCell ⟨w.heap.size, 3, none⟩ (.int .i64 0)).setCell ⟨w.heap.size, 4, none⟩ (.bool false)).setCell ⟨w.heap.size, 5, none⟩ (.int .i64 0)).setCell ⟨w.heap.size, 6, none⟩ (.int .i64 0)).setCell ⟨w.heap.size, 7, none⟩ (.string ⟨#[]⟩)) = W at hl hb8 ⊢
              clear hW
              refine bodyPost_ret (results_ct rfl _ _ w.heap.size 66 #[.int .i64 0, .int .i64 0, .bool false, .int .i64 0, .bool false, .int .i64 0, .int .i64 0, .string ⟨#[]⟩] (0, 0) _ rfl hl Tryz.underlying66 rfl (by kernel_rfl)) rfl ?_
              exact ⟨rfl, hb8⟩
            · have hF := HF4.out
              rw [if_neg hcar] at hF
              subst hF
              have hcar' : carriesF kd (z.size : Int) = true := by simpa using hcar
              rw [hcar']
              clear hcar hcar'
              go_wp2
              have hl := box8_last (x0 := .int .i64 sapi) (x1 := .int .i64 tei) (x2 := .bool (!cr)) (x3 := .int .i64 kd) (x4 := .bool pf) (x5 := .int .i64 ns) (x6 := .int .i64 nr) (x7 := .string z) HX4.out
              have hb8 := box8_below (x0 := .int .i64 sapi) (x1 := .int .i64 tei) (x2 := .bool (!cr)) (x3 := .int .i64 kd) (x4 := .bool pf) (x5 := .int .i64 ns) (x6 := .int .i64 nr) (x7 := .string z) HB4.out
              generalize hW : ((((((((w4.setCell ⟨w.heap.size, 0, none⟩ (.int .i64 sapi)).setCell ⟨w.heap.size, 1, none⟩ (.int .i64 tei)).setCell ⟨w.heap.size, 2, none⟩ (.bool (!cr))).setCell ⟨w.heap.size, 3, none⟩ (.int .i64 kd)).setCell ⟨w.heap.size, 4, none⟩ (.bool pf)).setCell ⟨w.heap.size, 5, none⟩ (.int .i64 ns)).setCell ⟨w.heap.size, 6, none⟩ (.int .i64 nr)).setCell ⟨w.heap.size, 7, none⟩ (.string z)) = W at hl hb8 ⊢
              clear hW
              refine bodyPost_ret (results_ct rfl _ _ w.heap.size 66 #[.int .i64 sapi, .int .i64 tei, .bool (!cr), .int .i64 kd, .bool pf, .int .i64 ns, .int .i64 nr, .string z] (0, 0) _ rfl hl Tryz.underlying66 rfl (by kernel_rfl)) rfl ?_
              exact ⟨by rw [← HZ.out]; rfl, hb8⟩
        · have hi3 : y.extract 4 y.size = z := hinfo
          clear hinfo
          go_wp2_with fail
          refine (may_any _ _ _).mono ?_
          rintro e w5 ⟨rfl, rfl⟩
          by_cases hm : mayF kd (!cr) = false
          · have hF := HF3.out
            rw [if_pos hm] at hF
            subst hF
            rw [hm]
            clear hm
            go_wp2
            have hl := box8_last (x0 := .int .i64 0) (x1 := .int .i64 0) (x2 := .bool false) (x3 := .int .i64 0) (x4 := .bool false) (x5 := .int .i64 0) (x6 := .int .i64 0) (x7 := .string ⟨#[]⟩) HX4.out
            have hb8 := box8_below (x0 := .int .i64 0) (x1 := .int .i64 0) (x2 := .bool false) (x3 := .int .i64 0) (x4 := .bool false) (x5 := .int .i64 0) (x6 := .int .i64 0) (x7 := .string ⟨#[]⟩) HB4.out
            generalize hW : ((((((((w4.setCell ⟨w.heap.size, 0, none⟩ (.int .i64 0)).setCell ⟨w.heap.size, 1, none⟩ (.int .i64 0)).setCell ⟨w.heap.size, 2, none⟩ (.bool false)).setCell ⟨w.heap.size, 3, none⟩ (.int .i64 0)).setCell ⟨w.heap.size, 4, none⟩ (.bool false)).setCell ⟨w.heap.size, 5, none⟩ (.int .i64 0)).setCell ⟨w.heap.size, 6, none⟩ (.int .i64 0)).setCell ⟨w.heap.size, 7, none⟩ (.string ⟨#[]⟩)) = W at hl hb8 ⊢
            clear hW
            refine bodyPost_ret (results_ct rfl _ _ w.heap.size 66 #[.int .i64 0, .int .i64 0, .bool false, .int .i64 0, .bool false, .int .i64 0, .int .i64 0, .string ⟨#[]⟩] (0, 0) _ rfl hl Tryz.underlying66 rfl (by kernel_rfl)) rfl ?_
            exact ⟨rfl, hb8⟩
          · have hF := HF3.out
            rw [if_neg hm] at hF
            have hm' : mayF kd (!cr) = true := by simpa using hm
            rw [hm']
            have HF4 := Lib.hid hF
            clear hm hm' hF
            go_wp2_with fail
            refine (carries_any _ _ _ HT4.out).mono ?_
            rintro e w6 ⟨rfl, rfl⟩
            by_cases hcar : carriesF kd (z.size : Int) = false
            · have hF := HF4.out
              rw [if_pos hcar] at hF
              subst hF
              rw [hcar]
              clear hcar
              go_wp2
              have hl := box8_last (x0 := .int .i64 0) (x1 := .int .i64 0) (x2 := .bool false) (x3 := .int .i64 0) (x4 := .bool false) (x5 := .int .i64 0) (x6 := .int .i64 0) (x7 := .string ⟨#[]⟩) HX4.out
              have hb8 := box8_below (x0 := .int .i64 0) (x1 := .int .i64 0) (x2 := .bool false) (x3 := .int .i64 0) (x4 := .bool false) (x5 := .int .i64 0) (x6 := .int .i64 0) (x7 := .string ⟨#[]⟩) HB4.out
              generalize hW : ((((((((w4.setCell ⟨w.heap.size, 0, none⟩ (.int .i64 0)).setCell ⟨w.heap.size, 1, none⟩ (.int .i64 0)).setCell ⟨w.heap.size, 2, none⟩ (.bool false)).setCell ⟨w.heap.size, 3, none⟩ (.int .i64 0)).setCell ⟨w.heap.size, 4, none⟩ (.bool false)).setCell ⟨w.heap.size, 5, none⟩ (.int .i64 0)).setCell ⟨w.heap.size, 6, none⟩ (.int .i64 0)).setCell ⟨w.heap.size, 7, none⟩ (.string ⟨#[]⟩)) = W at hl hb8 ⊢
              clear hW
              refine bodyPost_ret (results_ct rfl _ _ w.heap.size 66 #[.int .i64 0, .int .i64 0, .bool false, .int .i64 0, .bool false, .int .i64 0, .int .i64 0, .string ⟨#[]⟩] (0, 0) _ rfl hl Tryz.underlying66 rfl (by kernel_rfl)) rfl ?_
              exact ⟨rfl, hb8⟩
            · have hF := HF4.out
              rw [if_neg hcar] at hF
              subst hF
              have hcar' : carriesF kd (z.size : Int) = true := by simpa using hcar
              rw [hcar']
              clear hcar hcar'
              go_wp2
              have hl := box8_last (x0 := .int .i64 sapi) (x1 := .int .i64 tei) (x2 := .bool (!cr)) (x3 := .int .i64 kd) (x4 := .bool pf) (x5 := .int .i64 ns) (x6 := .int .i64 nr) (x7 := .string z) HX4.out
              have hb8 := box8_below (x0 := .int .i64 sapi) (x1 := .int .i64 tei) (x2 := .bool (!cr)) (x3 := .int .i64 kd) (x4 := .bool pf) (x5 := .int .i64 ns) (x6 := .int .i64 nr) (x7 := .string z) HB4.out
              generalize hW : ((((((((w4.setCell ⟨w.heap.size, 0, none⟩ (.int .i64 sapi)).setCell ⟨w.heap.size, 1, none⟩ (.int .i64 tei)).setCell ⟨w.heap.size, 2, none⟩ (.bool (!cr))).setCell ⟨w.heap.size, 3, none⟩ (.int .i64 kd)).setCell ⟨w.heap.size, 4, none⟩ (.bool pf)).setCell ⟨w.heap.size, 5, none⟩ (.int .i64 ns)).setCell ⟨w.heap.size, 6, none⟩ (.int .i64 nr)).setCell ⟨w.heap.size, 7, none⟩ (.string z)) = W at hl hb8 ⊢
              clear hW
              refine bodyPost_ret (results_ct rfl _ _ w.heap.size 66 #[.int .i64 sapi, .int .i64 tei, .bool (!cr), .int .i64 kd, .bool pf, .int .i64 ns, .int .i64 nr, .string z] (0, 0) _ rfl hl Tryz.underlying66 rfl (by kernel_rfl)) rfl ?_
              exact ⟨by rw [← HZ.out]; rfl, hb8⟩
      · have hF := HF2.out
        rw [if_neg (by simp), if_neg (by simp), if_pos hd0] at hF
        subst hF
        have q : (de != 0) = true := by simpa using hd0
        have q' : (de == 0) = false := by simpa using hd0
        clear hd0
        go_wp2
        have hl := box8_last (x0 := .int .i64 0) (x1 := .int .i64 0) (x2 := .bool false) (x3 := .int .i64 0) (x4 := .bool false) (x5 := .int .i64 0) (x6 := .int .i64 0) (x7 := .string ⟨#[]⟩) HX4.out
        have hb8 := box8_below (x0 := .int .i64 0) (x1 := .int .i64 0) (x2 := .bool false) (x3 := .int .i64 0) (x4 := .bool false) (x5 := .int .i64 0) (x6 := .int .i64 0) (x7 := .string ⟨#[]⟩) HB4.out
        generalize hW : ((((((((w4.setCell ⟨w.heap.size, 0, none⟩ (.int .i64 0)).setCell ⟨w.heap.size, 1, none⟩ (.int .i64 0)).setCell ⟨w.heap.size, 2, none⟩ (.bool false)).setCell ⟨w.heap.size, 3, none⟩ (.int .i64 0)).setCell ⟨w.heap.size, 4, none⟩ (.bool false)).setCell ⟨w.heap.size, 5, none⟩ (.int .i64 0)).setCell ⟨w.heap.size, 6, none⟩ (.int .i64 0)).setCell ⟨w.heap.size, 7, none⟩ (.string ⟨#[]⟩)) = W at hl hb8 ⊢
        clear hW
        refine bodyPost_ret (results_ct rfl _ _ w.heap.size 66 #[.int .i64 0, .int .i64 0, .bool false, .int .i64 0, .bool false, .int .i64 0, .int .i64 0, .string ⟨#[]⟩] (0, 0) _ rfl hl Tryz.underlying66 rfl (by kernel_rfl)) rfl ?_
        exact ⟨rfl, hb8⟩
    · have hF := HF.out
      rw [if_neg (by simp), if_pos ha0] at hF
      subst hF
      have q : (ae != 0) = true := by simpa using ha0
      clear ha0
      have p0 := at_cell hx2 0
      have p1 := at_cell hx2 1
      have p2 := at_cell hx2 2
      have p3 := at_cell hx2 3
      have p4 := at_cell hx2 4
      have p5 := at_cell hx2 5
      have p6 := at_cell hx2 6
      have p7 := at_cell hx2 7
      have z0 := at_frozen hx2 0
      have z1 := at_frozen hx2 1
      have z2 := at_frozen hx2 2
      have z3 := at_frozen hx2 3
      have z4 := at_frozen hx2 4
      have z5 := at_frozen hx2 5
      have z6 := at_frozen hx2 6
      have z7 := at_frozen hx2 7
      simp at p0 p1 p2 p3 p4 p5 p6 p7
      have hl2 := lt_of_at hx2
      clear hx2
      go_wp2
      have hl := at_alloc (box8_last (x0 := .int .i64 0) (x1 := .int .i64 0) (x2 := .bool false) (x3 := .int .i64 0) (x4 := .bool false) (x5 := .int .i64 0) (x6 := .int .i64 0) (x7 := .string ⟨#[]⟩) HXW.out) (.cells #[.int .i64 sapi, .int .i64 tei, .bool cr] 119)
      have hb8 := (box8_below (x0 := .int .i64 0) (x1 := .int .i64 0) (x2 := .bool false) (x3 := .int .i64 0) (x4 := .bool false) (x5 := .int .i64 0) (x6 := .int .i64 0) (x7 := .string ⟨#[]⟩) HBW.out).alloc (box8_below (x0 := .int .i64 0) (x1 := .int .i64 0) (x2 := .bool false) (x3 := .int .i64 0) (x4 := .bool false) (x5 := .int .i64 0) (x6 := .int .i64 0) (x7 := .string ⟨#[]⟩) HBW.out).size (.cells #[.int .i64 sapi, .int .i64 tei, .bool cr] 119)
      generalize hW : (((((((((w2.setCell ⟨w.heap.size, 0, none⟩ (.int .i64 0)).setCell ⟨w.heap.size, 1, none⟩ (.int .i64 0)).setCell ⟨w.heap.size, 2, none⟩ (.bool false)).setCell ⟨w.heap.size, 3, none⟩ (.int .i64 0)).setCell ⟨w.heap.size, 4, none⟩ (.bool false)).setCell ⟨w.heap.size, 5, none⟩ (.int .i64 0)).setCell ⟨w.heap.size, 6, none⟩ (.int .i64 0)).setCell ⟨w.heap.size, 7, none⟩ (.string ⟨#[]⟩)).alloc (.cells #[.int .i64 sapi, .int .i64 tei, .bool cr] 119)) = W at hl hb8 ⊢
      clear hW
      refine bodyPost_ret (results_ct rfl _ _ w.heap.size 66 #[.int .i64 0, .int .i64 0, .bool false, .int .i64 0, .bool false, .int .i64 0, .int .i64 0, .string ⟨#[]⟩] (0, 0) _ rfl hl Tryz.underlying66 rfl (by kernel_rfl)) rfl ?_
      exact ⟨rfl, hb8⟩
  · have hF := HF.out
    rw [if_pos hc0] at hF
    subst hF
    have q : (c2 != 0) = true := by simpa using hc0
    clear hc0
    have p0 := at_cell hx1 0
    have p1 := at_cell hx1 1
    have p2 := at_cell hx1 2
    have p3 := at_cell hx1 3
    have p4 := at_cell hx1 4
    have p5 := at_cell hx1 5
    have p6 := at_cell hx1 6
    have p7 := at_cell hx1 7
    have z0 := at_frozen hx1 0
    have z1 := at_frozen hx1 1
    have z2 := at_frozen hx1 2
    have z3 := at_frozen hx1 3
    have z4 := at_frozen hx1 4
    have z5 := at_frozen hx1 5
    have z6 := at_frozen hx1 6
    have z7 := at_frozen hx1 7
    simp at p0 p1 p2 p3 p4 p5 p6 p7
    clear hx1
    go_wp2
    have hl := box8_last (x0 := .int .i64 0) (x1 := .int .i64 0) (x2 := .bool false) (x3 := .int .i64 0) (x4 := .bool false) (x5 := .int .i64 0) (x6 := .int .i64 0) (x7 := .string ⟨#[]⟩) HX1.out
    have hb8 := box8_below (x0 := .int .i64 0) (x1 := .int .i64 0) (x2 := .bool false) (x3 := .int .i64 0) (x4 := .bool false) (x5 := .int .i64 0) (x6 := .int .i64 0) (x7 := .string ⟨#[]⟩) HB1.out
    generalize hW : ((((((((w1.setCell ⟨w.heap.size, 0, none⟩ (.int .i64 0)).setCell ⟨w.heap.size, 1, none⟩ (.int .i64 0)).setCell ⟨w.heap.size, 2, none⟩ (.bool false)).setCell ⟨w.heap.size, 3, none⟩ (.int .i64 0)).setCell ⟨w.heap.size, 4, none⟩ (.bool false)).setCell ⟨w.heap.size, 5, none⟩ (.int .i64 0)).setCell ⟨w.heap.size, 6, none⟩ (.int .i64 0)).setCell ⟨w.heap.size, 7, none⟩ (.string ⟨#[]⟩)) = W at hl hb8 ⊢
    clear hW
    refine bodyPost_ret (results_ct rfl _ _ w.heap.size 66 #[.int .i64 0, .int .i64 0, .bool false, .int .i64 0, .bool false, .int .i64 0, .int .i64 0, .string ⟨#[]⟩] (0, 0) _ rfl hl Tryz.underlying66 rfl (by kernel_rfl)) rfl ?_
    exact ⟨rfl, hb8⟩
end Go.Proofs.YtlfcfmdblmedcaaGreatDoor.Mine
