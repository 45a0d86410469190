/- The contracts of addr.Make, addr.Put (of the link that is sent here), ctrl.Kind.Name, frame.May, frame.Carries. -/
import Derived.Test.YtlfcfmdblmedcaaGreatDoorTCtrl
namespace Go.Proofs.YtlfcfmdblmedcaaGreatDoor.Mine
open Go.RowKit Go.Proofs.YtlfcfmdblmedcaaGreatDoorW.PrintWords
attribute [local go_sem] max_int min_int max_of_two min_of_two

theorem make_any (sapi tei : Int) (c n : Bool) (w : World) :
    Calls Tryz.prog 55 #[.agg #[.int .i64 sapi, .int .i64 tei], .bool c, .bool n] w fun e w' => e = .returned (.agg #[.int .i64 sapi, .int .i64 tei, .bool (c == n)]) ∧ Below w.heap.size w w' := by
  have hb : Below w.heap.size w ((w.alloc (.cells #[.int .i64 sapi, .int .i64 tei] 63)).alloc (.cells #[.int .i64 sapi, .int .i64 tei, .bool (c == n)] 119)) := ((Below.refl _ _).alloc (Nat.le_refl _) _).alloc (by simp) _
  have hn := at_new (w.alloc (.cells #[.int .i64 sapi, .int .i64 tei] 63)) (.cells #[.int .i64 sapi, .int .i64 tei, .bool (c == n)] 119)
  rw [World.size_alloc] at hn
  have HB := Lib.hid hb
  have HN := Lib.hid hn
  clear hb hn
  go_enter Tryz.func55, Tryz.ntmps55
  go_wp2
  refine bodyPost_ret (results_cell_row rfl _ _ (w.heap.size + 1) 119 #[.int .i64 sapi, .int .i64 tei, .bool (c == n)] (0, 0) _ rfl HN.out Tryz.underlying119 rfl (by kernel_rfl)) rfl ?_
  exact ⟨rfl, HB.out⟩

set_option maxHeartbeats 2000000 in
set_option maxRecDepth 100000 in
theorem addrput_64 (w : World) :
    Calls Tryz.prog 54 #[.agg #[.int .i64 0, .int .i64 64, .bool false]] w fun e w' => e = .returned (.tuple #[.string (strOfNums [0, 129]), .int .i64 0]) ∧ Below w.heap.size w w' := by
  have hbx := at_new w (.cells #[.int .i64 0, .int .i64 64, .bool false] 119)
  have hb : Below w.heap.size w (w.alloc (.cells #[.int .i64 0, .int .i64 64, .bool false] 119)) := (Below.refl _ _).alloc (Nat.le_refl _) _
  have hne := at_new (w.alloc (.cells #[.int .i64 0, .int .i64 64, .bool false] 119)) (.cells #[.int .i64 1, .int .i64 0, .int .i64 1, .int .i64 0, .int .i64 6, .int .i64 0] 45)
  rw [World.size_alloc] at hne
  have HB2 := Lib.hid (hb.alloc hb.size (.cells #[.int .i64 1, .int .i64 0, .int .i64 1, .int .i64 0, .int .i64 6, .int .i64 0] 45))
  have HX2 := Lib.hid (at_alloc hbx (.cells #[.int .i64 1, .int .i64 0, .int .i64 1, .int .i64 0, .int .i64 6, .int .i64 0] 45))
  have HN := Lib.hid hne
  clear hbx hb hne
  go_enter Tryz.func54, Tryz.ntmps54
  go_wp2_with fail
  go_region_held3 (fun w' => w'.cell? ⟨w.heap.size, 0, none⟩ = some (.int .i64 0) ∧ w'.cell? ⟨w.heap.size, 2, none⟩ = some (.bool false)) (go_keep) (first | (go_at_call 83; refine (addrone_any _ _).mono ?_; rintro e w1 ⟨rfl, rfl⟩) | (go_at_call 82; refine (pack3_zero (g := w.heap.size + 1) _ ?_).mono ?_; (exact HN.out); rintro e w2 ⟨rfl, b2⟩; have hx3 := (b2.block _ (lt_of_at HX2.out)).trans HX2.out; have z0 := at_cell hx3 0; have z1 := at_cell hx3 1; have z2 := at_cell hx3 2; simp at z0 z1 z2; have zl := lt_of_at hx3; have HB3 := Lib.hid (HB2.out.drew.trans (b2.mono HB2.out.size)); clear b2 hx3))
  have hcv := fun W a b => bytes2 W a b
  go_wp2_with fail
  refine (pack2_any 1 64 _ (at_new _ _) (Or.inr rfl) (by decide) (by decide)).mono ?_
  rintro e w3 ⟨rfl, b3⟩
  have HB4 := Lib.hid (HB3.out.trans (((Below.refl _ _).alloc HB3.out.size _).trans (b3.mono (by have := HB3.out.size; simp; omega))))
  clear b3 z0 z1 z2
  go_wp2
  go_ret2
  exact ⟨ret_str (by simp), HB4.out.alloc HB4.out.size _⟩

def nameL (k : Int) : List Int := if 0 ≤ k ∧ k < 10 then namesT.getD k.toNat [] else []
set_option maxHeartbeats 1000000 in
theorem name_any (k : Int) (w : World) (hT : Tabs w) :
    Calls Tryz.prog 71 #[.int .i64 k] w fun e w' => e = .returned (.string (strOfNums (nameL k))) ∧ w = w' := by
  by_cases h : 0 ≤ k ∧ k < 10
  · have e : nameL k = namesT.getD k.toNat [] := if_pos h
    rw [e]
    obtain ⟨n, rfl⟩ := Int.eq_ofNat_of_zero_le h.1
    have c := hT.2 n (by omega)
    have hn : ((n : Int)).toNat = n := by simp
    rw [hn]
    obtain ⟨y, hy⟩ : ∃ y, strOfNums (namesT.getD n []) = y := ⟨_, rfl⟩
    rw [hy] at c ⊢
    have hd : (decide (0 ≤ (n : Int) ∧ (n : Int) < 10)) = true := by simpa using h
    have h1 : (n : Int) < 10 := h.2
    clear hT e hy hn h
    go_enter Tryz.func71, Tryz.ntmps71
    go_wp2_with fail
    refine (good_kind _ _).mono ?_
    rw [hd]
    rintro e w1 ⟨rfl, rfl⟩
    clear hd
    go_wp2
    go_ret
    exact ⟨rfl, rfl⟩
  · have e : nameL k = [] := if_neg h
    rw [e]
    have hd : (decide (0 ≤ k ∧ k < 10)) = false := by simpa using h
    clear hT e
    go_enter Tryz.func71, Tryz.ntmps71
    go_wp2_with fail
    refine (good_kind _ _).mono ?_
    rw [hd]
    rintro e w1 ⟨rfl, rfl⟩
    clear hd
    go_wp2
    go_ret
    exact ⟨rfl, rfl⟩

/-- How much information a kind carries. -/
def carriesF (k n : Int) : Bool := if k = 0 ∨ k = 6 then decide (0 ≤ n ∧ n ≤ 260) else if k = 9 then decide (n = 5) else decide (n = 0 ∧ 0 ≤ k ∧ k < 10)
end Go.Proofs.YtlfcfmdblmedcaaGreatDoor.Mine
