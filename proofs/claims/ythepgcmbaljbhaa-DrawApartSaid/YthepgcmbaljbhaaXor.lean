/- A number with its lowest bit turned is another one, also modulo 65536. -/
import Derived.Laws.BitsLemmas
namespace Go.Proofs.Ythepgcmbaljbhaa.Mine

theorem xor1_parity (x : Int) : (bits .xor .i64 x 1) % 2 ≠ x % 2 := by
  have h1 : (BitVec.ofInt IntKind.i64.bits 1).toNat = 1 := by decide
  simp only [bits]
  rw [BitVec.toNat_xor, h1, BitVec.toNat_ofInt, IntKind.wrap_i64]
  obtain ⟨n, hn⟩ : ∃ n : Nat, (x % ((2 ^ IntKind.i64.bits : Nat) : Int)).toNat = n := ⟨_, rfl⟩
  rw [hn]
  have hb : ((2 ^ IntKind.i64.bits : Nat) : Int) = 18446744073709551616 := by decide
  rw [hb] at hn
  have hx : (n ^^^ 1) % 2 = (n % 2) ^^^ 1 := by
    have := Nat.xor_mod_two_pow (a := n) (b := 1) (n := 1)
    simpa using this
  have hx2 : n % 2 = 0 ∨ n % 2 = 1 := by omega
  have hx3 : (n ^^^ 1) % 2 ≠ n % 2 := by
    rcases hx2 with h | h <;> rw [hx, h] <;> decide
  omega
end Go.Proofs.Ythepgcmbaljbhaa.Mine
