/- The contract of bits.Flip at one place. -/
import Derived.Test.YtlfcfmdblmedcaaDoorTStream
import Derived.Lib.ConvBytes
namespace Go.Proofs.YtlfcfmdblmedcaaDoor.Mine
open Go.RowKit Go.Proofs.YtlfcfmdblmedcaaDoorW.PrintWords
attribute [local go_sem] max_int min_int max_of_two min_of_two

/-- One bit turned. -/
def turnL (l : List Int) (i : Nat) : List Int := l.set i (97 - l.getD i 0)
theorem cell_lt {w : World} {a : Addr} {v : Value} (h : w.cell? a = some v) : a.block < w.heap.size := World.block_lt_of_cell? w a h

set_option maxHeartbeats 1000000 in
set_option maxRecDepth 100000 in
theorem flip_any (s : ByteArray) (i g cp : Nat) (w : World) (hg : w.cell? ⟨g, 0, none⟩ = some (.int .i64 (i : Int))) (hi : i < s.size) (hb : IsBits (bytesOf s)) :
    Calls Tryd.prog 9 #[.string s, .slice (some ⟨g, 0, none⟩) 1 cp] w fun e w' => e = .returned (.string (strOfNums (turnL (bytesOf s) i))) ∧ Below w.heap.size w w' := by
  have hcv := Lib.run_convert_string_bytes (P := Tryd.prog) w 9 88 5 s (u := .string) (by kernel_rfl) (by kernel_rfl) (by kernel_rfl)
  have hnew := Lib.bytesWorld_at_new w 5 s
  have hcell := Lib.bytesWorld_cell w 5 s
  have hold := Lib.bytesWorld_old w 5 s ⟨g, 0, none⟩ (cell_lt hg)
  have hbel : Below w.heap.size w (Lib.bytesWorld w 5 s) := ⟨rfl, rfl, rfl, by rw [Lib.bytesWorld_size]; omega, fun j hj => Lib.bytesWorld_at_old w 5 s j hj⟩
  obtain ⟨W1, hW1⟩ : ∃ W1, Lib.bytesWorld w 5 s = W1 := ⟨_, rfl⟩
  obtain ⟨cap, hcap⟩ : ∃ cap, grownCap w s.size 0 5 = cap := ⟨_, rfl⟩
  rw [hW1, hcap] at hcv
  rw [hW1] at hnew hcell hold hbel
  have hg1 : W1.cell? ⟨g, 0, none⟩ = some (.int .i64 (i : Int)) := hold.trans hg
  have hsz : s.size ≤ (Lib.bytesCells w 5 s).size := by simp [Lib.bytesCells]
  have hfz : W1.frozen? ⟨w.heap.size, i, none⟩ = false := by
    simp only [World.frozen?, hnew]
    simp; omega
  have hcl : ∀ j, j < s.size → W1.cell? ⟨w.heap.size, j, none⟩ = some (.int .u8 ((bytesOf s).getD j 0)) := by
    intro j hj
    rw [hcell j hj]
    have h1 : j < s.data.size := hj
    simp [bytesOf, List.getD_eq_getElem?_getD, Array.getElem?_eq_getElem h1]
  have hxb : (bytesOf s).getD i 0 = 48 ∨ (bytesOf s).getD i 0 = 49 := by
    have h1 : i < (bytesOf s).length := by rw [bytesOf_length]; exact hi
    rw [List.getD_eq_getElem?_getD, List.getElem?_eq_getElem h1]
    exact hb _ (List.getElem_mem h1)
  obtain ⟨x, hx⟩ : ∃ x, (bytesOf s).getD i 0 = x := ⟨_, rfl⟩
  have hci := hcl i hi
  rw [hx] at hci hxb
  have hor : bits .or .u8 x 1 = 49 := by rcases hxb with rfl | rfl <;> decide
  have hxor : bits .xor .u8 x 1 = 97 - x := by rcases hxb with rfl | rfl <;> decide
  have hback := run_convert_bytes_arg (P := Tryd.prog) (w := W1.setCell ⟨w.heap.size, i, none⟩ (.int .u8 (97 - x))) 88 5 (by kernel_rfl) (by kernel_rfl) w.heap.size 0 s.size cap (turnL (bytesOf s) i) (by simp [turnL, bytesOf_length]) (fun j hj => by
    rw [Nat.zero_add]
    by_cases hji : j = i
    · subst hji
      rw [World.cell?_setCell_same _ _ _ hci]
      simp [turnL, List.getD_eq_getElem?_getD, bytesOf_length, hj, ← hx]
    · rw [World.cell?_setCell_other _ _ _ _ (by simp only [ne_eq, Addr.mk.injEq]; omega), hcl j hj]
      have h2 : i ≠ j := fun e => hji e.symm
      simp [turnL, List.getD_eq_getElem?_getD, h2]) 9 (by kernel_rfl)
  have hbel2 : Below w.heap.size w (W1.setCell ⟨w.heap.size, i, none⟩ (.int .u8 (97 - x))) := hbel.setCell (Nat.le_refl _) _
  have HB := Lib.hid hbel2
  obtain ⟨y, hy⟩ : ∃ y, strOfNums (turnL (bytesOf s) i) = y := ⟨_, rfl⟩
  rw [hy] at hback ⊢
  clear hnew hcell hold hbel hW1 hcap hcl hxb hx hb hbel2 hy hg
  go_enter Tryd.func9, Tryd.ntmps9
  go_wp2_with fail
  go_loopw [12] (fun j wr => (j = .int .i64 0 ∧ W1 = wr) ∨ (j = .int .i64 1 ∧ W1.setCell ⟨w.heap.size, i, none⟩ (.int .u8 (97 - x)) = wr)) (fun j _ => 1 - (intOf j).toNat)
  case atStart => exact Or.inl ⟨rfl, rfl⟩
  case round =>
    rcases hrel with ⟨rfl, rfl⟩ | ⟨rfl, rfl⟩
    · go_wp2
      go_roundw
      case rel => exact Or.inr ⟨rfl, trivial⟩
      case measure => simp [intOf]
    · go_wp2
      go_ret
      exact ⟨rfl, HB.out⟩
end Go.Proofs.YtlfcfmdblmedcaaDoor.Mine
