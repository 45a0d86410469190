/- The contracts of bits.Pack at the two fields that teimsg.Put hands it, of teimsg.Put, addr.KindOf, user.said. -/
import Derived.Test.YtlfcfmdblmedcaaDoorProg
import Derived.Test.YtlfcfmdblmedcaaDoorBase
namespace Go.Proofs.YtlfcfmdblmedcaaDoor.Mine
open Go.RowKit

attribute [local go_sem] max_int min_int max_of_two min_of_two
def PackInv (w : World) (ai : Int) (o l i : Value) (wr : World) : Prop :=
  ∃ (k : Nat) (x : Int), i = .int .i64 k ∧ o = .int .i64 x ∧ ((k = 0 ∧ l = .int .i64 0) ∨ (k = 1 ∧ l = .int .i64 1) ∨ (k = 2 ∧ l = .int .i64 8 ∧ 0 ≤ ai ∧ ai ≤ 127)) ∧ Below w.heap.size w wr

/-- What a message's Ai is put as: an error, just where it is none of 0 to 127. -/
def packE (ai : Int) : Int := if 0 ≤ ai ∧ ai ≤ 127 then 0 else 2
def PackPost (w : World) (ai : Int) (e : Ending) (w' : World) : Prop := ∃ x, e = .returned (.tuple #[.int .u8 x, .int .i64 (packE ai)]) ∧ Below w.heap.size w w'
set_option maxHeartbeats 1000000 in
set_option maxRecDepth 100000 in
theorem pack_any {g : Nat} (ai : Int) (w : World) (h : w.heap[g]? = some (.cells #[.int .i64 1, .int .i64 1, .int .i64 7, .int .i64 ai] 132 (0, 0))) :
    Calls Tryd.prog 55 #[.slice (some ⟨g, 0, none⟩) 2 2] w (PackPost w ai) := by
  go_enter Tryd.func55, Tryd.ntmps55
  go_wp2
  go_loopw [4, 5, 10] (fun o l i wr => PackInv w ai o l i wr) (fun _ _ i _ => 2 - (intOf i).toNat)
  case atStart => exact ⟨0, 0, rfl, rfl, Or.inl ⟨rfl, rfl⟩, Below.refl _ _⟩
  case round =>
    obtain ⟨k, x, rfl, rfl, hk, hb⟩ := hrel
    have hg : wr.heap[g]? = _ := (hb.block g (lt_of_at h)).trans h
    have c0 := at_cell hg 0
    have c1 := at_cell hg 1
    have c2 := at_cell hg 2
    have c3 := at_cell hg 3
    simp at c0 c1 c2 c3
    have HB := Lib.hid hb
    clear hg hb
    rcases hk with ⟨rfl, rfl⟩ | ⟨rfl, rfl⟩ | ⟨rfl, rfl, h0, h1⟩
    · go_wp2
      go_roundw
      case rel => exact ⟨1, _, rfl, rfl, Or.inr (Or.inl ⟨rfl, rfl⟩), HB.out.alloc HB.out.size _⟩
      case measure => simp [intOf]
    · by_cases h0 : ai < 0
      · have e : packE ai = 2 := if_neg (by omega)
        go_wp2
        go_ret2
        exact ⟨_, by rw [e]; rfl, HB.out.alloc HB.out.size _⟩
      · by_cases h1 : ai ≤ 127
        · have q0 : ai / 128 = 0 := by omega
          go_wp2
          go_roundw
          case rel => exact ⟨2, _, rfl, rfl, Or.inr (Or.inr ⟨rfl, rfl, by omega, h1⟩), HB.out.alloc HB.out.size _⟩
          case measure => simp [intOf]
        · have q0 : (ai / 128 == 0) = false := by simp; omega
          have q1 : (ai / 128 != 0) = true := by simp; omega
          have e : packE ai = 2 := if_neg (by omega)
          go_wp2
          go_ret2
          exact ⟨_, by rw [e]; rfl, HB.out.alloc HB.out.size _⟩
    · have e : packE ai = 0 := if_pos ⟨h0, h1⟩
      go_wp2
      go_ret2
      exact ⟨_, by rw [e]; rfl, HB.out⟩

theorem bytes5 (w : World) (a b c d e : Int) : (convert 88 9 (.slice (some ⟨w.heap.size, 0, none⟩) 5 5)).run Tryd.prog (w.alloc (.cells #[.int .u8 a, .int .u8 b, .int .u8 c, .int .u8 d, .int .u8 e] 5)) = .ok (.string (strOfNums [a, b, c, d, e])) (w.alloc (.cells #[.int .u8 a, .int .u8 b, .int .u8 c, .int .u8 d, .int .u8 e] 5)) :=
  run_convert_bytes_arg _ 88 5 (by kernel_rfl) (by kernel_rfl) w.heap.size 0 5 5 [a, b, c, d, e] rfl (fun i hi => by
    rw [at_cell (at_new _ _)]
    rcases i with _ | _ | _ | _ | _ | i
    · rfl
    · rfl
    · rfl
    · rfl
    · rfl
    · omega) 9 (by kernel_rfl)

/-- What a message is put as: OK, or an error. -/
def putE (t ri ai : Int) : Int := if t < 1 ∨ 7 < t then 4 else if ri < 0 ∨ 65535 < ri then 2 else packE ai
def PutPost (w : World) (t ri ai : Int) (e : Ending) (w' : World) : Prop := ∃ s : ByteArray, e = .returned (.tuple #[.string s, .int .i64 (putE t ri ai)]) ∧ Below w.heap.size w w'
set_option maxHeartbeats 1000000 in
set_option maxRecDepth 100000 in
theorem put_any (t ri ai : Int) (w : World) :
    Calls Tryd.prog 45 #[.agg #[.int .i64 t, .int .i64 ri, .int .i64 ai]] w (PutPost w t ri ai) := by
  have hne : ((w.alloc (.cells #[.int .i64 t, .int .i64 ri, .int .i64 ai] 73)).alloc (.cells #[.int .i64 1, .int .i64 1, .int .i64 7, .int .i64 ai] 132)).heap[w.heap.size + 1]? = some (.cells #[.int .i64 1, .int .i64 1, .int .i64 7, .int .i64 ai] 132) := by
    have h := at_new (w.alloc (.cells #[.int .i64 t, .int .i64 ri, .int .i64 ai] 73)) (.cells #[.int .i64 1, .int .i64 1, .int .i64 7, .int .i64 ai] 132)
    rwa [show (w.alloc (.cells #[.int .i64 t, .int .i64 ri, .int .i64 ai] 73)).heap.size = w.heap.size + 1 from World.size_alloc _ _] at h
  have HN := Lib.hid hne
  clear hne
  by_cases ht : t < 1
  · have e : putE t ri ai = 4 := if_pos (Or.inl ht)
    go_enter Tryd.func45, Tryd.ntmps45
    go_wp2
    go_ret2
    exact ⟨_, by rw [e]; rfl, (Below.refl _ _).alloc (Nat.le_refl _) _⟩
  · by_cases ht2 : 7 < t
    · have e : putE t ri ai = 4 := if_pos (Or.inr ht2)
      go_enter Tryd.func45, Tryd.ntmps45
      go_wp2
      go_ret2
      exact ⟨_, by rw [e]; rfl, (Below.refl _ _).alloc (Nat.le_refl _) _⟩
    · have e0 : putE t ri ai = if ri < 0 ∨ 65535 < ri then 2 else packE ai := if_neg (by omega)
      by_cases hr : ri < 0
      · have e : putE t ri ai = 2 := e0.trans (if_pos (Or.inl hr))
        clear e0
        go_enter Tryd.func45, Tryd.ntmps45
        go_wp2
        go_ret2
        exact ⟨_, by rw [e]; rfl, (Below.refl _ _).alloc (Nat.le_refl _) _⟩
      · by_cases hr2 : 65535 < ri
        · have e : putE t ri ai = 2 := e0.trans (if_pos (Or.inr hr2))
          clear e0
          go_enter Tryd.func45, Tryd.ntmps45
          go_wp2
          go_ret2
          exact ⟨_, by rw [e]; rfl, (Below.refl _ _).alloc (Nat.le_refl _) _⟩
        · have e : putE t ri ai = packE ai := e0.trans (if_neg (by omega))
          have E := Lib.hid e
          clear e0 e
          by_cases hai : 0 ≤ ai ∧ ai ≤ 127
          · have hp : packE ai = 0 := if_pos hai
            have HP := Lib.hid hp
            clear hp hai
            go_enter Tryd.func45, Tryd.ntmps45
            go_wp2_with fail
            refine (pack_any ai _ HN.out).mono ?_
            rintro e w1 ⟨x, rfl, b1⟩
            rw [HP.out]
            have hm := at_alloc (at_new w (.cells #[.int .i64 t, .int .i64 ri, .int .i64 ai] 73)) (.cells #[.int .i64 1, .int .i64 1, .int .i64 7, .int .i64 ai] 132)
            have hg : w1.heap[w.heap.size]? = _ := (b1.block w.heap.size (lt_of_at hm)).trans hm
            have c0 := at_cell hg 0
            have c1 := at_cell hg 1
            simp at c0 c1
            clear hm hg
            have B1 := Lib.hid b1
            clear b1
            have hcv := bytes5 w1 15 (ri / 256) (ri % 256) t x
            go_wp2
            go_ret2
            refine ⟨_, by rw [E.out, HP.out]; rfl, ?_⟩
            exact (((Below.refl w.heap.size w).alloc (Nat.le_refl _) _).alloc (by simp) _).trans ((B1.out.mono (by simp; omega)).alloc (by have := B1.out.size; simp at this; omega) _)
          · have hp : packE ai = 2 := if_neg hai
            have HP := Lib.hid hp
            clear hp hai
            go_enter Tryd.func45, Tryd.ntmps45
            go_wp2_with fail
            refine (pack_any ai _ HN.out).mono ?_
            rintro e w1 ⟨x, rfl, b1⟩
            rw [HP.out]
            have B1 := Lib.hid b1
            clear b1
            go_wp2
            go_ret2
            refine ⟨_, by rw [E.out, HP.out]; rfl, ?_⟩
            exact (((Below.refl w.heap.size w).alloc (Nat.le_refl _) _).alloc (by simp) _).trans (B1.out.mono (by simp; omega))
end Go.Proofs.YtlfcfmdblmedcaaDoor.Mine
