/- Wire: the zigzag, back. -/
import Derived.Test.YtjgiphoolfhlmaaWs
namespace Go.Proofs.Ytjgiphoolfhlmaa
open Go.RowKit
set_option linter.unusedVariables false
theorem zag_bits {n : Nat} (h : n < 18446744073709551616) : bits BinOp.xor IntKind.i64 ((n : Int) / 2) (wrap64 (-wrap64 (bits BinOp.and IntKind.u64 (n : Int) 1))) = unz n ∧ (Lit.int .i64 (unz n)).wf = true := by
  have e1 : bits BinOp.and IntKind.u64 (n : Int) 1 = ((n % 2 : Nat) : Int) := by
    have := (bits_nat .u64 64 (by decide) wraps_u64' n 1 (by omega) (by decide)).1
    rw [Nat.and_one_is_mod] at this
    exact this
  rw [e1]
  have hm : (n : Int) / 2 = ((n / 2 : Nat) : Int) := by omega
  have hm2 : n / 2 < 9223372036854775808 := by omega
  rw [hm]
  have ha : (BitVec.ofInt 64 ((n / 2 : Nat) : Int)).toNat = n / 2 := by
    rw [BitVec.ofInt_natCast, BitVec.toNat_ofNat]; exact Nat.mod_eq_of_lt (by omega)
  refine ⟨?_, ?_⟩
  · rcases Nat.mod_two_eq_zero_or_one n with h0 | h0
    · rw [h0]
      have : wrap64 (-wrap64 ((0 : Nat) : Int)) = 0 := by decide +kernel
      rw [this]
      show IntKind.i64.wrap ((BitVec.ofInt 64 ((n / 2 : Nat) : Int) ^^^ BitVec.ofInt 64 0).toNat : Int) = _
      rw [show BitVec.ofInt 64 0 = 0#64 from rfl, BitVec.xor_zero, ha, IntKind.wrap_i64]
      unfold unz
      rw [if_neg (by omega)]
      omega
    · rw [h0]
      have : wrap64 (-wrap64 ((1 : Nat) : Int)) = -1 := by decide +kernel
      rw [this]
      show IntKind.i64.wrap ((BitVec.ofInt 64 ((n / 2 : Nat) : Int) ^^^ BitVec.ofInt 64 (-1)).toNat : Int) = _
      rw [show BitVec.ofInt 64 (-1) = BitVec.allOnes 64 from by decide, BitVec.xor_allOnes, BitVec.toNat_not, ha, IntKind.wrap_i64]
      unfold unz
      rw [if_pos h0]
      omega
  · simp [Lit.wf, IntKind.min, IntKind.max, IntKind.bits, IntKind.signed]
    unfold unz
    split <;> omega
end Go.Proofs.Ytjgiphoolfhlmaa
