/- The contracts of frame.Carries and frame.May. -/
import Derived.Test.YtlfcfmdblmedcaaGreatDoorTAddr
namespace Go.Proofs.YtlfcfmdblmedcaaGreatDoor.Mine
open Go.RowKit Go.Proofs.YtlfcfmdblmedcaaGreatDoorW.PrintWords
attribute [local go_sem] max_int min_int max_of_two min_of_two

theorem name_ne (k : Int) (h : 0 ≤ k ∧ k < 10) : nameL k ≠ [] := by
  have e : nameL k = namesT.getD k.toNat [] := if_pos h
  rw [e]
  obtain ⟨n, rfl⟩ := Int.eq_ofNat_of_zero_le h.1
  have hn : n < 10 := by omega
  have hall : ∀ m : Fin 10, namesT.getD m.val [] ≠ [] := by decide
  exact hall ⟨n, hn⟩

set_option maxHeartbeats 1000000 in
theorem carries_any (k n : Int) (w : World) (hT : Tabs w) :
    Calls Tryz.prog 37 #[.int .i64 k, .int .i64 n] w fun e w' => e = .returned (.bool (carriesF k n)) ∧ w = w' := by
  by_cases h0 : k = 0
  · subst h0
    by_cases hn : 0 ≤ n
    · go_enter Tryz.func37, Tryz.ntmps37
      go_wp2
      go_ret
      exact ⟨ret_bool (by simp [carriesF, hn]), rfl⟩
    · have q : decide (0 ≤ n) = false := by simpa using hn
      go_enter Tryz.func37, Tryz.ntmps37
      go_wp2
      go_ret
      exact ⟨ret_bool (by simp [carriesF]; omega), rfl⟩
  · have q0 : (k == 0) = false := by simpa using h0
    by_cases h6 : k = 6
    · subst h6
      by_cases hn : 0 ≤ n
      · go_enter Tryz.func37, Tryz.ntmps37
        go_wp2
        go_ret
        exact ⟨ret_bool (by simp [carriesF, hn]), rfl⟩
      · have q : decide (0 ≤ n) = false := by simpa using hn
        go_enter Tryz.func37, Tryz.ntmps37
        go_wp2
        go_ret
        exact ⟨ret_bool (by simp [carriesF]; omega), rfl⟩
    · have q6 : (k == 6) = false := by simpa using h6
      by_cases h9 : k = 9
      · subst h9
        go_enter Tryz.func37, Tryz.ntmps37
        go_wp2
        go_ret
        exact ⟨ret_bool (by unfold carriesF; rw [if_neg (by omega), if_pos rfl]; by_cases hn : n = 5 <;> simp [hn]), rfl⟩
      · have q9 : (k == 9) = false := by simpa using h9
        have e : carriesF k n = decide (n = 0 ∧ 0 ≤ k ∧ k < 10) := by unfold carriesF; rw [if_neg (by omega), if_neg h9]
        rw [e]
        by_cases hn : n = 0
        · subst hn
          obtain ⟨y, hy⟩ : ∃ y, strOfNums (nameL k) = y := ⟨_, rfl⟩
          have HN := Lib.hid (name_any k w hT)
          rw [hy] at HN
          by_cases hk : 0 ≤ k ∧ k < 10
          · have hne : y ≠ ⟨#[]⟩ := by
              intro q
              apply name_ne k hk
              have h1 := strOfNums_size (nameL k)
              rw [hy, q] at h1
              exact List.length_eq_zero_iff.1 h1.symm
            have s1 := str_ne hne
            have s2 : y.toList ≠ [] := by
              intro q
              rw [Lib.toList_data] at q
              exact hne (ByteArray.ext (Array.toList_inj.1 q))
            have s3 : y.toList.isEmpty = false := by simpa using s2
            have hd : decide ((0 : Int) = 0 ∧ 0 ≤ k ∧ k < 10) = true := by simpa using hk
            have HD := Lib.hid hd
            clear hT e h0 h6 h9 hy hne s2 hk hd
            go_enter Tryz.func37, Tryz.ntmps37
            go_wp2_with fail
            refine HN.out.mono ?_
            rintro e w1 ⟨rfl, rfl⟩
            go_wp2
            go_ret
            exact ⟨ret_bool (by rw [HD.out]), rfl⟩
          · have hye : y = ⟨#[]⟩ := by
              rw [← hy, show nameL k = [] from if_neg hk]; rfl
            subst hye
            have hd : decide ((0 : Int) = 0 ∧ 0 ≤ k ∧ k < 10) = false := by simpa using hk
            have HD := Lib.hid hd
            clear hT e h0 h6 h9 hy hk hd
            go_enter Tryz.func37, Tryz.ntmps37
            go_wp2_with fail
            refine HN.out.mono ?_
            rintro e w1 ⟨rfl, rfl⟩
            go_wp2
            go_ret
            exact ⟨ret_bool (by rw [HD.out]), rfl⟩
        · have qn : (n == 0) = false := by simpa using hn
          have hd : decide (n = 0 ∧ 0 ≤ k ∧ k < 10) = false := by simp [hn]
          rw [hd]
          clear hT e h0 h6 h9 hn hd
          go_enter Tryz.func37, Tryz.ntmps37
          go_wp2
          go_ret
          exact ⟨rfl, rfl⟩

theorem arr4_0 (W : World) : (Instr.index 133 (.agg #[.int .i64 0, .int .i64 4, .int .i64 6, .int .i64 7]) (.int .i64 0)).run Tryz.prog W = .ok (.int .i64 0) W := by kernel_rfl
theorem arr4_1 (W : World) : (Instr.index 133 (.agg #[.int .i64 0, .int .i64 4, .int .i64 6, .int .i64 7]) (.int .i64 1)).run Tryz.prog W = .ok (.int .i64 4) W := by kernel_rfl
theorem arr4_2 (W : World) : (Instr.index 133 (.agg #[.int .i64 0, .int .i64 4, .int .i64 6, .int .i64 7]) (.int .i64 2)).run Tryz.prog W = .ok (.int .i64 6) W := by kernel_rfl
theorem arr4_3 (W : World) : (Instr.index 133 (.agg #[.int .i64 0, .int .i64 4, .int .i64 6, .int .i64 7]) (.int .i64 3)).run Tryz.prog W = .ok (.int .i64 7) W := by kernel_rfl
theorem arr3_0 (W : World) : (Instr.index 134 (.agg #[.int .i64 5, .int .i64 8, .int .i64 9]) (.int .i64 0)).run Tryz.prog W = .ok (.int .i64 5) W := by kernel_rfl
theorem arr3_1 (W : World) : (Instr.index 134 (.agg #[.int .i64 5, .int .i64 8, .int .i64 9]) (.int .i64 1)).run Tryz.prog W = .ok (.int .i64 8) W := by kernel_rfl
theorem arr3_2 (W : World) : (Instr.index 134 (.agg #[.int .i64 5, .int .i64 8, .int .i64 9]) (.int .i64 2)).run Tryz.prog W = .ok (.int .i64 9) W := by kernel_rfl
/-- May a frame of that kind be a command, or a response? -/
def mayF (k : Int) (c : Bool) : Bool := if k = 0 ∨ k = 4 ∨ k = 6 ∨ k = 7 then c else if k = 5 ∨ k = 8 ∨ k = 9 then !c else decide (0 ≤ k ∧ k ≤ 3)
set_option maxHeartbeats 2000000 in
set_option maxRecDepth 100000 in
theorem may_any (k : Int) (c : Bool) (w : World) :
    Calls Tryz.prog 36 #[.int .i64 k, .bool c] w fun e w' => e = .returned (.bool (mayF k c)) ∧ w = w' := by
  obtain ⟨z, hz⟩ : ∃ z, mayF k c = z := ⟨_, rfl⟩
  rw [hz]
  have HZ := Lib.hid hz
  clear hz
  go_enter Tryz.func36, Tryz.ntmps36
  go_wp2_with fail
  go_loopw [10] (fun i wr => ((i = .int .i64 0) ∨ (i = .int .i64 1 ∧ k ≠ 0) ∨ (i = .int .i64 2 ∧ k ≠ 0 ∧ k ≠ 4) ∨ (i = .int .i64 3 ∧ k ≠ 0 ∧ k ≠ 4 ∧ k ≠ 6) ∨ (i = .int .i64 4 ∧ k ≠ 0 ∧ k ≠ 4 ∧ k ≠ 6 ∧ k ≠ 7)) ∧ w = wr) (fun i _ => 4 - (intOf i).toNat)
  case atStart => exact ⟨Or.inl rfl, rfl⟩
  case round =>
    obtain ⟨hk, rfl⟩ := hrel
    rcases hk with rfl | ⟨rfl, h0⟩ | ⟨rfl, h0, h4⟩ | ⟨rfl, h0, h4, h6⟩ | ⟨rfl, h0, h4, h6, h7⟩
    · have hi := fun W => arr4_0 W
      by_cases h0 : k = 0
      · subst h0
        go_wp2
        go_ret
        exact ⟨ret_bool (by rw [← HZ.out]; rfl), rfl⟩
      · have q : (k == 0) = false := by simpa using h0
        have HH := Lib.hid (show k ≠ 0 from h0)
        clear h0
        go_wp2
        go_roundw
        case rel => exact ⟨Or.inr (Or.inl ⟨rfl, HH.out⟩), trivial⟩
        case measure => simp [intOf]
    · have hi := fun W => arr4_1 W
      by_cases h4 : k = 4
      · subst h4
        clear h0
        go_wp2
        go_ret
        exact ⟨ret_bool (by rw [← HZ.out]; rfl), rfl⟩
      · have q : (k == 4) = false := by simpa using h4
        have HH := Lib.hid (show k ≠ 0 ∧ k ≠ 4 from ⟨h0, h4⟩)
        clear h0 h4
        go_wp2
        go_roundw
        case rel => exact ⟨Or.inr (Or.inr (Or.inl ⟨rfl, HH.out⟩)), trivial⟩
        case measure => simp [intOf]
    · have hi := fun W => arr4_2 W
      by_cases h6 : k = 6
      · subst h6
        clear h0 h4
        go_wp2
        go_ret
        exact ⟨ret_bool (by rw [← HZ.out]; rfl), rfl⟩
      · have q : (k == 6) = false := by simpa using h6
        have HH := Lib.hid (show k ≠ 0 ∧ k ≠ 4 ∧ k ≠ 6 from ⟨h0, h4, h6⟩)
        clear h0 h4 h6
        go_wp2
        go_roundw
        case rel => exact ⟨Or.inr (Or.inr (Or.inr (Or.inl ⟨rfl, HH.out⟩))), trivial⟩
        case measure => simp [intOf]
    · have hi := fun W => arr4_3 W
      by_cases h7 : k = 7
      · subst h7
        clear h0 h4 h6
        go_wp2
        go_ret
        exact ⟨ret_bool (by rw [← HZ.out]; rfl), rfl⟩
      · have q : (k == 7) = false := by simpa using h7
        have HH := Lib.hid (show k ≠ 0 ∧ k ≠ 4 ∧ k ≠ 6 ∧ k ≠ 7 from ⟨h0, h4, h6, h7⟩)
        clear h0 h4 h6 h7
        go_wp2
        go_roundw
        case rel => exact ⟨Or.inr (Or.inr (Or.inr (Or.inr (⟨rfl, HH.out⟩)))), trivial⟩
        case measure => simp [intOf]
    · have HA := Lib.hid (show k ≠ 0 ∧ k ≠ 4 ∧ k ≠ 6 ∧ k ≠ 7 from ⟨h0, h4, h6, h7⟩)
      clear h0 h4 h6 h7
      go_wp2_with fail
      go_loopw [19] (fun i wr => ((i = .int .i64 0) ∨ (i = .int .i64 1 ∧ k ≠ 5) ∨ (i = .int .i64 2 ∧ k ≠ 5 ∧ k ≠ 8) ∨ (i = .int .i64 3 ∧ k ≠ 5 ∧ k ≠ 8 ∧ k ≠ 9)) ∧ w = wr) (fun i _ => 3 - (intOf i).toNat)
      case atStart => exact ⟨Or.inl rfl, rfl⟩
      case round =>
        obtain ⟨hk, rfl⟩ := hrel
        rcases hk with rfl | ⟨rfl, h5⟩ | ⟨rfl, h5, h8⟩ | ⟨rfl, h5, h8, h9⟩
        · have hi := fun W => arr3_0 W
          by_cases h5 : k = 5
          · subst h5
            go_wp2
            go_ret
            exact ⟨ret_bool (by rw [← HZ.out]; rfl), rfl⟩
          · have q : (k == 5) = false := by simpa using h5
            have HH := Lib.hid (show k ≠ 5 from h5)
            clear h5
            go_wp2
            go_roundw
            case rel => exact ⟨Or.inr (Or.inl ⟨rfl, HH.out⟩), trivial⟩
            case measure => simp [intOf]
        · have hi := fun W => arr3_1 W
          by_cases h8 : k = 8
          · subst h8
            clear h5
            go_wp2
            go_ret
            exact ⟨ret_bool (by rw [← HZ.out]; rfl), rfl⟩
          · have q : (k == 8) = false := by simpa using h8
            have HH := Lib.hid (show k ≠ 5 ∧ k ≠ 8 from ⟨h5, h8⟩)
            clear h5 h8
            go_wp2
            go_roundw
            case rel => exact ⟨Or.inr (Or.inr (Or.inl ⟨rfl, HH.out⟩)), trivial⟩
            case measure => simp [intOf]
        · have hi := fun W => arr3_2 W
          by_cases h9 : k = 9
          · subst h9
            clear h5 h8
            go_wp2
            go_ret
            exact ⟨ret_bool (by rw [← HZ.out]; rfl), rfl⟩
          · have q : (k == 9) = false := by simpa using h9
            have HH := Lib.hid (show k ≠ 5 ∧ k ≠ 8 ∧ k ≠ 9 from ⟨h5, h8, h9⟩)
            clear h5 h8 h9
            go_wp2
            go_roundw
            case rel => exact ⟨Or.inr (Or.inr (Or.inr (⟨rfl, HH.out⟩))), trivial⟩
            case measure => simp [intOf]
        · have he : z = decide (0 ≤ k ∧ k ≤ 3) := by
            have hA := HA.out
            rw [← HZ.out]
            unfold mayF
            rw [if_neg (by omega), if_neg (by omega)]
          have HE := Lib.hid he
          clear h5 h8 h9 he
          go_wp2_with fail
          refine (numbered_any _ _).mono ?_
          rintro e w1 ⟨rfl, rfl⟩
          go_wp2
          go_ret
          exact ⟨ret_bool (by rw [HE.out]; simp), rfl⟩
end Go.Proofs.YtlfcfmdblmedcaaGreatDoor.Mine
