/- Fold: the reference's bits: bit by bit. -/
import Derived.Test.YtbianedgogdeeaaFprog
namespace Go.Proofs.Ytbianedgogdeeaa
open Go.RowKit Fold
set_option linter.unusedVariables false

/-- One round of the reference's loop: what is gathered, and what is still to come. -/
def BInv (A B : Nat) (f : Nat → Bool) (k a b r p : Nat) : Prop :=
  a < 4294967296 ∧ b < 4294967296 ∧ r < 2 ^ k ∧ (k < 32 → p = 2 ^ k) ∧ r + 2 ^ k * bitsN (32 - k) a b f = bitsN 32 A B f

theorem BInv.step {A B : Nat} {f : Nat → Bool} {k a b r p : Nat} (h : BInv A B f k a b r p) (hk : k < 32) :
    BInv A B f (k + 1) (a / 2) (b / 2) (r + if f (a % 2 + b % 2) then p else 0) (p * 2 % 4294967296) := by
  obtain ⟨h1, h2, h3, h4, h5⟩ := h
  have hp := h4 hk
  subst hp
  have e : 32 - k = (32 - (k + 1)) + 1 := by omega
  rw [e, bitsN] at h5
  refine ⟨by omega, by omega, ?_, ?_, ?_⟩
  · rw [Nat.pow_succ]; split <;> omega
  · intro hk1
    rw [← Nat.pow_succ]
    exact Nat.mod_eq_of_lt (by have := Nat.pow_lt_pow_right (a := 2) (by decide) (show k + 1 < 32 from hk1); simpa using this)
  · rw [← h5, Nat.pow_succ]
    generalize bitsN (32 - (k + 1)) (a / 2) (b / 2) f = x
    split
    · rw [Nat.mul_add, Nat.mul_assoc]; omega
    · rw [Nat.zero_add, Nat.mul_assoc]; omega
theorem BInv.bound {A B : Nat} {f : Nat → Bool} {k a b r p : Nat} (h : BInv A B f k a b r p) (hk : k < 32) : r < p ∧ p ≤ 2147483648 := by
  obtain ⟨h1, h2, h3, h4, h5⟩ := h
  rw [h4 hk]
  exact ⟨h3, by have := Nat.pow_le_pow_right (n := 2) (by decide) (show k ≤ 31 by omega); simpa using this⟩
theorem BInv.done {A B : Nat} {f : Nat → Bool} {a b r p : Nat} (h : BInv A B f 32 a b r p) : r = bitsN 32 A B f := by
  have h5 := h.2.2.2.2
  have e : bitsN (32 - 32) a b f = 0 := rfl
  rw [e, Nat.mul_zero, Nat.add_zero] at h5
  exact h5
theorem val_u32 {a b : Int} (h : a = b) : Value.int .u32 a = Value.int .u32 b := by rw [h]

set_option maxHeartbeats 4000000 in
theorem bits_tf (A B : Nat) (W : World) (hA : A < 4294967296) (hB : B < 4294967296) :
    Calls Try.prog 69 #[.int .u32 A, .int .u32 B, .bool true, .bool false] W fun e W' => e = .returned (.int .u32 (bitsN 32 A B (opF true false) : Nat)) ∧ W = W' := by
  go_enter Try.func69, Try.ntmps69
  go_wp2_with fail
  go_loop [0, 1, 9, 10, 11] (fun a b r p i => ∃ k a' b' r' p' : Nat, k ≤ 32 ∧ a = .int .u32 a' ∧ b = .int .u32 b' ∧ r = .int .u32 r' ∧ p = .int .u32 p' ∧ i = .int .i64 k ∧ BInv A B (opF true false) k a' b' r' p') (fun _ _ _ _ i => 32 - (intOf i).toNat)
  case atStart => exact ⟨0, A, B, 0, 1, by omega, rfl, rfl, rfl, rfl, rfl, hA, hB, by decide, fun _ => rfl, by simp⟩
  case round =>
    obtain ⟨k, a', b', r', p', hk, rfl, rfl, rfl, rfl, rfl, hinv⟩ := hrel
    by_cases hlt : k < 32
    · have hst := hinv.step hlt
      obtain ⟨hb1, hb2⟩ := hinv.bound hlt
      have ha := hinv.1
      have hb := hinv.2.1
      clear hinv hA hB
      rcases Nat.mod_two_eq_zero_or_one a' with ea | ea <;> rcases Nat.mod_two_eq_zero_or_one b' with eb | eb
      · have hst : BInv A B (opF true false) (k + 1) (a' / 2) (b' / 2) (r') (p' * 2 % 4294967296) := by rw [ea, eb] at hst; simpa [opF] using hst
        have fa : (a' : Int) % 2 = 0 := by omega
        have fb : (b' : Int) % 2 = 0 := by omega
        clear ea eb
        go_wp2_with fail
        go_round
        case rel =>
          refine ⟨k + 1, a' / 2, b' / 2, r', p' * 2 % 4294967296, ?_, ?_, ?_, ?_, ?_, ?_, ?_⟩
          · omega
          · exact val_u32 (by omega)
          · exact val_u32 (by omega)
          · exact val_u32 (by omega)
          · exact val_u32 (by omega)
          · go_num
          · exact hst
        case measure => simp [intOf]; omega
      · have hst : BInv A B (opF true false) (k + 1) (a' / 2) (b' / 2) (r' + p') (p' * 2 % 4294967296) := by rw [ea, eb] at hst; simpa [opF] using hst
        have fa : (a' : Int) % 2 = 0 := by omega
        have fb : (b' : Int) % 2 = 1 := by omega
        clear ea eb
        go_wp2_with fail
        go_round
        case rel =>
          refine ⟨k + 1, a' / 2, b' / 2, r' + p', p' * 2 % 4294967296, ?_, ?_, ?_, ?_, ?_, ?_, ?_⟩
          · omega
          · exact val_u32 (by omega)
          · exact val_u32 (by omega)
          · exact val_u32 (by omega)
          · exact val_u32 (by omega)
          · go_num
          · exact hst
        case measure => simp [intOf]; omega
      · have hst : BInv A B (opF true false) (k + 1) (a' / 2) (b' / 2) (r' + p') (p' * 2 % 4294967296) := by rw [ea, eb] at hst; simpa [opF] using hst
        have fa : (a' : Int) % 2 = 1 := by omega
        have fb : (b' : Int) % 2 = 0 := by omega
        clear ea eb
        go_wp2_with fail
        go_round
        case rel =>
          refine ⟨k + 1, a' / 2, b' / 2, r' + p', p' * 2 % 4294967296, ?_, ?_, ?_, ?_, ?_, ?_, ?_⟩
          · omega
          · exact val_u32 (by omega)
          · exact val_u32 (by omega)
          · exact val_u32 (by omega)
          · exact val_u32 (by omega)
          · go_num
          · exact hst
        case measure => simp [intOf]; omega
      · have hst : BInv A B (opF true false) (k + 1) (a' / 2) (b' / 2) (r') (p' * 2 % 4294967296) := by rw [ea, eb] at hst; simpa [opF] using hst
        have fa : (a' : Int) % 2 = 1 := by omega
        have fb : (b' : Int) % 2 = 1 := by omega
        clear ea eb
        go_wp2_with fail
        go_round
        case rel =>
          refine ⟨k + 1, a' / 2, b' / 2, r', p' * 2 % 4294967296, ?_, ?_, ?_, ?_, ?_, ?_, ?_⟩
          · omega
          · exact val_u32 (by omega)
          · exact val_u32 (by omega)
          · exact val_u32 (by omega)
          · exact val_u32 (by omega)
          · go_num
          · exact hst
        case measure => simp [intOf]; omega
    · obtain rfl : k = 32 := by omega
      have hf : r' = bitsN 32 A B (opF true false) := hinv.done
      clear hinv
      go_wp2_with fail
      go_ret
      exact ⟨rfl, rfl⟩

set_option maxHeartbeats 4000000 in
theorem bits_ft (A B : Nat) (W : World) (hA : A < 4294967296) (hB : B < 4294967296) :
    Calls Try.prog 69 #[.int .u32 A, .int .u32 B, .bool false, .bool true] W fun e W' => e = .returned (.int .u32 (bitsN 32 A B (opF false true) : Nat)) ∧ W = W' := by
  go_enter Try.func69, Try.ntmps69
  go_wp2_with fail
  go_loop [0, 1, 9, 10, 11] (fun a b r p i => ∃ k a' b' r' p' : Nat, k ≤ 32 ∧ a = .int .u32 a' ∧ b = .int .u32 b' ∧ r = .int .u32 r' ∧ p = .int .u32 p' ∧ i = .int .i64 k ∧ BInv A B (opF false true) k a' b' r' p') (fun _ _ _ _ i => 32 - (intOf i).toNat)
  case atStart => exact ⟨0, A, B, 0, 1, by omega, rfl, rfl, rfl, rfl, rfl, hA, hB, by decide, fun _ => rfl, by simp⟩
  case round =>
    obtain ⟨k, a', b', r', p', hk, rfl, rfl, rfl, rfl, rfl, hinv⟩ := hrel
    by_cases hlt : k < 32
    · have hst := hinv.step hlt
      obtain ⟨hb1, hb2⟩ := hinv.bound hlt
      have ha := hinv.1
      have hb := hinv.2.1
      clear hinv hA hB
      rcases Nat.mod_two_eq_zero_or_one a' with ea | ea <;> rcases Nat.mod_two_eq_zero_or_one b' with eb | eb
      · have hst : BInv A B (opF false true) (k + 1) (a' / 2) (b' / 2) (r') (p' * 2 % 4294967296) := by rw [ea, eb] at hst; simpa [opF] using hst
        have fa : (a' : Int) % 2 = 0 := by omega
        have fb : (b' : Int) % 2 = 0 := by omega
        clear ea eb
        go_wp2_with fail
        go_round
        case rel =>
          refine ⟨k + 1, a' / 2, b' / 2, r', p' * 2 % 4294967296, ?_, ?_, ?_, ?_, ?_, ?_, ?_⟩
          · omega
          · exact val_u32 (by omega)
          · exact val_u32 (by omega)
          · exact val_u32 (by omega)
          · exact val_u32 (by omega)
          · go_num
          · exact hst
        case measure => simp [intOf]; omega
      · have hst : BInv A B (opF false true) (k + 1) (a' / 2) (b' / 2) (r') (p' * 2 % 4294967296) := by rw [ea, eb] at hst; simpa [opF] using hst
        have fa : (a' : Int) % 2 = 0 := by omega
        have fb : (b' : Int) % 2 = 1 := by omega
        clear ea eb
        go_wp2_with fail
        go_round
        case rel =>
          refine ⟨k + 1, a' / 2, b' / 2, r', p' * 2 % 4294967296, ?_, ?_, ?_, ?_, ?_, ?_, ?_⟩
          · omega
          · exact val_u32 (by omega)
          · exact val_u32 (by omega)
          · exact val_u32 (by omega)
          · exact val_u32 (by omega)
          · go_num
          · exact hst
        case measure => simp [intOf]; omega
      · have hst : BInv A B (opF false true) (k + 1) (a' / 2) (b' / 2) (r') (p' * 2 % 4294967296) := by rw [ea, eb] at hst; simpa [opF] using hst
        have fa : (a' : Int) % 2 = 1 := by omega
        have fb : (b' : Int) % 2 = 0 := by omega
        clear ea eb
        go_wp2_with fail
        go_round
        case rel =>
          refine ⟨k + 1, a' / 2, b' / 2, r', p' * 2 % 4294967296, ?_, ?_, ?_, ?_, ?_, ?_, ?_⟩
          · omega
          · exact val_u32 (by omega)
          · exact val_u32 (by omega)
          · exact val_u32 (by omega)
          · exact val_u32 (by omega)
          · go_num
          · exact hst
        case measure => simp [intOf]; omega
      · have hst : BInv A B (opF false true) (k + 1) (a' / 2) (b' / 2) (r' + p') (p' * 2 % 4294967296) := by rw [ea, eb] at hst; simpa [opF] using hst
        have fa : (a' : Int) % 2 = 1 := by omega
        have fb : (b' : Int) % 2 = 1 := by omega
        clear ea eb
        go_wp2_with fail
        go_round
        case rel =>
          refine ⟨k + 1, a' / 2, b' / 2, r' + p', p' * 2 % 4294967296, ?_, ?_, ?_, ?_, ?_, ?_, ?_⟩
          · omega
          · exact val_u32 (by omega)
          · exact val_u32 (by omega)
          · exact val_u32 (by omega)
          · exact val_u32 (by omega)
          · go_num
          · exact hst
        case measure => simp [intOf]; omega
    · obtain rfl : k = 32 := by omega
      have hf : r' = bitsN 32 A B (opF false true) := hinv.done
      clear hinv
      go_wp2_with fail
      go_ret
      exact ⟨rfl, rfl⟩

set_option maxHeartbeats 4000000 in
theorem bits_tt (A B : Nat) (W : World) (hA : A < 4294967296) (hB : B < 4294967296) :
    Calls Try.prog 69 #[.int .u32 A, .int .u32 B, .bool true, .bool true] W fun e W' => e = .returned (.int .u32 (bitsN 32 A B (opF true true) : Nat)) ∧ W = W' := by
  go_enter Try.func69, Try.ntmps69
  go_wp2_with fail
  go_loop [0, 1, 9, 10, 11] (fun a b r p i => ∃ k a' b' r' p' : Nat, k ≤ 32 ∧ a = .int .u32 a' ∧ b = .int .u32 b' ∧ r = .int .u32 r' ∧ p = .int .u32 p' ∧ i = .int .i64 k ∧ BInv A B (opF true true) k a' b' r' p') (fun _ _ _ _ i => 32 - (intOf i).toNat)
  case atStart => exact ⟨0, A, B, 0, 1, by omega, rfl, rfl, rfl, rfl, rfl, hA, hB, by decide, fun _ => rfl, by simp⟩
  case round =>
    obtain ⟨k, a', b', r', p', hk, rfl, rfl, rfl, rfl, rfl, hinv⟩ := hrel
    by_cases hlt : k < 32
    · have hst := hinv.step hlt
      obtain ⟨hb1, hb2⟩ := hinv.bound hlt
      have ha := hinv.1
      have hb := hinv.2.1
      clear hinv hA hB
      rcases Nat.mod_two_eq_zero_or_one a' with ea | ea <;> rcases Nat.mod_two_eq_zero_or_one b' with eb | eb
      · have hst : BInv A B (opF true true) (k + 1) (a' / 2) (b' / 2) (r') (p' * 2 % 4294967296) := by rw [ea, eb] at hst; simpa [opF] using hst
        have fa : (a' : Int) % 2 = 0 := by omega
        have fb : (b' : Int) % 2 = 0 := by omega
        clear ea eb
        go_wp2_with fail
        go_round
        case rel =>
          refine ⟨k + 1, a' / 2, b' / 2, r', p' * 2 % 4294967296, ?_, ?_, ?_, ?_, ?_, ?_, ?_⟩
          · omega
          · exact val_u32 (by omega)
          · exact val_u32 (by omega)
          · exact val_u32 (by omega)
          · exact val_u32 (by omega)
          · go_num
          · exact hst
        case measure => simp [intOf]; omega
      · have hst : BInv A B (opF true true) (k + 1) (a' / 2) (b' / 2) (r' + p') (p' * 2 % 4294967296) := by rw [ea, eb] at hst; simpa [opF] using hst
        have fa : (a' : Int) % 2 = 0 := by omega
        have fb : (b' : Int) % 2 = 1 := by omega
        clear ea eb
        go_wp2_with fail
        go_round
        case rel =>
          refine ⟨k + 1, a' / 2, b' / 2, r' + p', p' * 2 % 4294967296, ?_, ?_, ?_, ?_, ?_, ?_, ?_⟩
          · omega
          · exact val_u32 (by omega)
          · exact val_u32 (by omega)
          · exact val_u32 (by omega)
          · exact val_u32 (by omega)
          · go_num
          · exact hst
        case measure => simp [intOf]; omega
      · have hst : BInv A B (opF true true) (k + 1) (a' / 2) (b' / 2) (r' + p') (p' * 2 % 4294967296) := by rw [ea, eb] at hst; simpa [opF] using hst
        have fa : (a' : Int) % 2 = 1 := by omega
        have fb : (b' : Int) % 2 = 0 := by omega
        clear ea eb
        go_wp2_with fail
        go_round
        case rel =>
          refine ⟨k + 1, a' / 2, b' / 2, r' + p', p' * 2 % 4294967296, ?_, ?_, ?_, ?_, ?_, ?_, ?_⟩
          · omega
          · exact val_u32 (by omega)
          · exact val_u32 (by omega)
          · exact val_u32 (by omega)
          · exact val_u32 (by omega)
          · go_num
          · exact hst
        case measure => simp [intOf]; omega
      · have hst : BInv A B (opF true true) (k + 1) (a' / 2) (b' / 2) (r' + p') (p' * 2 % 4294967296) := by rw [ea, eb] at hst; simpa [opF] using hst
        have fa : (a' : Int) % 2 = 1 := by omega
        have fb : (b' : Int) % 2 = 1 := by omega
        clear ea eb
        go_wp2_with fail
        go_round
        case rel =>
          refine ⟨k + 1, a' / 2, b' / 2, r' + p', p' * 2 % 4294967296, ?_, ?_, ?_, ?_, ?_, ?_, ?_⟩
          · omega
          · exact val_u32 (by omega)
          · exact val_u32 (by omega)
          · exact val_u32 (by omega)
          · exact val_u32 (by omega)
          · go_num
          · exact hst
        case measure => simp [intOf]; omega
    · obtain rfl : k = 32 := by omega
      have hf : r' = bitsN 32 A B (opF true true) := hinv.done
      clear hinv
      go_wp2_with fail
      go_ret
      exact ⟨rfl, rfl⟩
end Go.Proofs.Ytbianedgogdeeaa
