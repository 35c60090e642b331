/- Wire: the zigzag's arithmetic. -/
import Derived.Test.YtjgiphoolfhlmaaWa
import Derived.Laws.Bits64
import Derived.Test.YtjgiphoolfhlmaaL1
namespace Go.Proofs.Ytjgiphoolfhlmaa

theorem xor_ones (x : Nat) (h : x < 2^64) : x ^^^ 18446744073709551615 = 18446744073709551615 - x := by
  have t1 : ∀ x : BitVec 64, (x ^^^ BitVec.allOnes 64).toNat = 2^64 - 1 - x.toNat := fun x => by rw [BitVec.xor_allOnes, BitVec.toNat_not]
  have := t1 (BitVec.ofNat 64 x)
  rw [BitVec.toNat_xor, BitVec.toNat_ofNat, BitVec.toNat_allOnes, Nat.mod_eq_of_lt h] at this
  simpa using this
theorem zig_bits {nm : Int} (h1 : -9223372036854775808 ≤ nm) (h2 : nm ≤ 9223372036854775807) :
    bits BinOp.xor IntKind.u64 (IntKind.u64.wrap (IntKind.u64.wrap nm * 2)) (IntKind.u64.wrap (nm / 9223372036854775808)) = (zig nm : Nat) := by
  rw [IntKind.wrap_u64, IntKind.wrap_u64, IntKind.wrap_u64]
  unfold zig
  by_cases h0 : 0 ≤ nm
  · rw [if_pos h0]
    obtain ⟨m, rfl⟩ := Int.eq_ofNat_of_zero_le h0
    have e1 : ((m : Int) % 18446744073709551616 * 2) % 18446744073709551616 = ((2 * m : Nat) : Int) := by omega
    have e2 : ((m : Int) / 9223372036854775808) % 18446744073709551616 = ((0 : Nat) : Int) := by omega
    rw [e1, e2, bits_xor_u64_nat _ _ (by omega) (by omega), Nat.xor_zero]
    omega
  · rw [if_neg h0]
    obtain ⟨m, hm⟩ : ∃ m : Nat, nm = -((m : Int) + 1) := ⟨(-(nm + 1)).toNat, by omega⟩
    subst hm
    have e1 : ((-((m : Int) + 1)) % 18446744073709551616 * 2) % 18446744073709551616 = ((18446744073709551614 - 2 * m : Nat) : Int) := by omega
    have e2 : ((-((m : Int) + 1)) / 9223372036854775808) % 18446744073709551616 = ((18446744073709551615 : Nat) : Int) := by omega
    rw [e1, e2, bits_xor_u64_nat _ _ (by omega) (by omega), xor_ones _ (by omega)]
    omega
theorem zig_lt {nm : Int} (h1 : -9223372036854775808 ≤ nm) (h2 : nm ≤ 9223372036854775807) : zig nm < 18446744073709551616 := by
  unfold zig
  split <;> omega
theorem wf_i64 {n : Int} (h : (Lit.int IntKind.i64 n).wf = true) : -9223372036854775808 ≤ n ∧ n ≤ 9223372036854775807 := by
  simpa [Lit.wf, IntKind.min, IntKind.max, IntKind.bits, IntKind.signed] using h
theorem cutL_append (a b : List Itm) : cutL (a ++ b) = cutL a ++ cutL b := by
  induction a with
  | nil => rw [List.nil_append, cutL, List.nil_append]
  | cons x r ih => rw [List.cons_append, cutL, cutL, ih, List.append_assoc]
theorem cutL_snoc {l : List Itm} {k : Nat} {x : Itm} (hk : k < l.length) (hx : l[k] = x) : cutL (l.take (k + 1)) = cutL (l.take k) ++ cutI x := by
  rw [List.take_add_one, cutL_append, List.getElem?_eq_getElem hk, hx, Option.toList_some, cutL, cutL, List.append_nil]
theorem wrap_size {n : Nat} (h : n ≤ 140737488351232) : IntKind.u64.wrap (n : Int) = (n : Nat) := by rw [IntKind.wrap_u64]; omega
theorem strCells_flat (s : ByteArray) : (txtB s).flatMap encB = Lib.strCells s := by
  unfold txtB Lib.strCells encB
  rw [List.flatMap_map]
  induction s.data.toList with
  | nil => rfl
  | cons x r ih => rw [List.flatMap_cons, List.map_cons, ih]; rfl
theorem zeros_flat (m : Nat) : (List.replicate m 0).flatMap encB = List.replicate m (Value.int .u8 0) := by
  induction m with
  | zero => rfl
  | succ m ih => rw [List.replicate_succ, List.flatMap_cons, ih, List.replicate_succ]; rfl
theorem own_string {w : World} {base : Nat} {v : Value} {bs : List Nat} {tx : ByteArray} (h : w.ownsRow base 5 1 v (bs.length + tx.size) (bs.flatMap encB ++ Lib.strCells tx)) : OwnB w base v (bs ++ txtB tx) := by
  unfold OwnB OwnL
  rw [List.flatMap_append, List.length_append, txtB_len, strCells_flat]
  exact h
theorem own_zeros {w : World} {base : Nat} {v : Value} {bs : List Nat} {m : Nat} (h : w.ownsRow base 5 1 v (bs.length + m) (bs.flatMap encB ++ List.replicate m (Value.int .u8 0))) : OwnB w base v (bs ++ List.replicate m 0) := by
  unfold OwnB OwnL
  rw [List.flatMap_append, List.length_append, List.length_replicate, zeros_flat]
  exact h
theorem blk_grown {w w' : World} {row : Option Nat} {b : Nat} {cs : Array Value} {T : TypeId} (h : w.grownBy w' row) (hb : Blk w b cs T) (hne : row ≠ some b) : Blk w' b cs T := by
  have := hb.lt
  unfold Blk at *
  rw [h.block b this (Ne.symm hne), hb]
end Go.Proofs.Ytjgiphoolfhlmaa
