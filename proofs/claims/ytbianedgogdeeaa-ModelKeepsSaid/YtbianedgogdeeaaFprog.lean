/- Fold: Start, Join, Map, Test of the program. Written by genfold.py. -/
import Derived.Test.YtbianedgogdeeaaRows
import Derived.Test.YtbianedgogdeeaaL1
import Derived.Test.YtbianedgogdeeaaFp
import Derived.WalkSpells
import Derived.WalkLawsBesides
namespace Go.Proofs.Ytbianedgogdeeaa
open Go.RowKit Fold
set_option linter.unusedVariables false

theorem ret_u32 {a b : Int} (h : a = b) : Ending.returned (.int .u32 a) = .returned (.int .u32 b) := by rw [h]
theorem ret_bool {a b : Bool} (h : a = b) : Ending.returned (.bool a) = .returned (.bool b) := by rw [h]
theorem u32_in (n : Nat) (h : n < 4294967296) : IntKind.u32.wrap (n : Int) = n := by
  have : IntKind.u32.wrap (n : Int) = (n : Int) % 4294967296 := rfl
  rw [this]; omega
theorem bits_xor (a b : Nat) (ha : a < 4294967296) (hb : b < 4294967296) : bits .xor .u32 a b = ((a ^^^ b : Nat) : Int) := by
  have h := Nat.xor_lt_two_pow (n := 32) ha hb
  have ea : (BitVec.ofInt IntKind.u32.bits (a : Int)).toNat = a := by rw [BitVec.toNat_ofInt]; exact Int.toNat_natCast a ▸ congrArg Int.toNat (Int.emod_eq_of_lt (by omega) (by show (a : Int) < 4294967296; omega))
  have eb : (BitVec.ofInt IntKind.u32.bits (b : Int)).toNat = b := by rw [BitVec.toNat_ofInt]; exact Int.toNat_natCast b ▸ congrArg Int.toNat (Int.emod_eq_of_lt (by omega) (by show (b : Int) < 4294967296; omega))
  unfold bits
  simp only
  rw [BitVec.toNat_xor, ea, eb]
  exact u32_in _ h
theorem bits_and (a b : Nat) (ha : a < 4294967296) (hb : b < 4294967296) : bits .and .u32 a b = ((a &&& b : Nat) : Int) := by
  have h := Nat.and_lt_two_pow (n := 32) a hb
  have ea : (BitVec.ofInt IntKind.u32.bits (a : Int)).toNat = a := by rw [BitVec.toNat_ofInt]; exact Int.toNat_natCast a ▸ congrArg Int.toNat (Int.emod_eq_of_lt (by omega) (by show (a : Int) < 4294967296; omega))
  have eb : (BitVec.ofInt IntKind.u32.bits (b : Int)).toNat = b := by rw [BitVec.toNat_ofInt]; exact Int.toNat_natCast b ▸ congrArg Int.toNat (Int.emod_eq_of_lt (by omega) (by show (b : Int) < 4294967296; omega))
  unfold bits
  simp only
  rw [BitVec.toNat_and, ea, eb]
  exact u32_in _ h
theorem bits_or (a b : Nat) (ha : a < 4294967296) (hb : b < 4294967296) : bits .or .u32 a b = ((a ||| b : Nat) : Int) := by
  have h := Nat.or_lt_two_pow (n := 32) ha hb
  have ea : (BitVec.ofInt IntKind.u32.bits (a : Int)).toNat = a := by rw [BitVec.toNat_ofInt]; exact Int.toNat_natCast a ▸ congrArg Int.toNat (Int.emod_eq_of_lt (by omega) (by show (a : Int) < 4294967296; omega))
  have eb : (BitVec.ofInt IntKind.u32.bits (b : Int)).toNat = b := by rw [BitVec.toNat_ofInt]; exact Int.toNat_natCast b ▸ congrArg Int.toNat (Int.emod_eq_of_lt (by omega) (by show (b : Int) < 4294967296; omega))
  unfold bits
  simp only
  rw [BitVec.toNat_or, ea, eb]
  exact u32_in _ h

set_option maxHeartbeats 2000000 in
theorem start1 (w : Int) (v : Nat) (W : World) (hw : w = 1) :
    Calls Try.prog 63 #[.int .i64 w, .int .u32 v] W fun e W' => e = .returned (.int .u32 (1 : Int)) ∧ W = W' := by
  subst hw
  go_enter Try.func63, Try.ntmps63
  go_wp2
  go_ret
  exact ⟨rfl, rfl⟩

set_option maxHeartbeats 2000000 in
theorem startL (w : Int) (v : Nat) (W : World) (hw : w < 0) :
    Calls Try.prog 63 #[.int .i64 w, .int .u32 v] W fun e W' => e = .returned (.int .u32 (0 : Int)) ∧ W = W' := by
  have e1 : (w == 1) = false := by simp; omega
  go_enter Try.func63, Try.ntmps63
  go_wp2
  go_ret
  exact ⟨rfl, rfl⟩

set_option maxHeartbeats 2000000 in
theorem startG (w : Int) (v : Nat) (W : World) (hw : 6 < w) :
    Calls Try.prog 63 #[.int .i64 w, .int .u32 v] W fun e W' => e = .returned (.int .u32 (0 : Int)) ∧ W = W' := by
  have e1 : (w == 1) = false := by simp; omega
  have hw0 : 0 ≤ w := by omega
  go_enter Try.func63, Try.ntmps63
  go_wp2
  go_ret
  exact ⟨rfl, rfl⟩

set_option maxHeartbeats 2000000 in
theorem startO (w : Int) (v : Nat) (W : World) (h0 : 0 ≤ w) (h6 : w ≤ 6) (h1 : w ≠ 1) :
    Calls Try.prog 63 #[.int .i64 w, .int .u32 v] W fun e W' => e = .returned (.int .u32 (v : Nat)) ∧ W = W' := by
  have e1 : (w == 1) = false := by simpa using h1
  clear h1
  go_enter Try.func63, Try.ntmps63
  go_wp2
  go_ret
  exact ⟨rfl, rfl⟩

theorem start_any (w : Int) (v : Nat) (W : World) :
    Calls Try.prog 63 #[.int .i64 w, .int .u32 v] W fun e W' => e = .returned (.int .u32 (startN w v : Nat)) ∧ W = W' := by
  by_cases h1 : w = 1
  · have : startN w v = 1 := by simp [startN, h1]
    rw [this]; exact start1 w v W h1
  by_cases h0 : w < 0
  · have : startN w v = 0 := by simp [startN, h1, h0]
    rw [this]; exact startL w v W h0
  by_cases h6 : 6 < w
  · have : startN w v = 0 := by simp [startN, h1, h6]
    rw [this]; exact startG w v W h6
  have : startN w v = v := by simp [startN, h1, h0, h6]
  rw [this]; exact startO w v W (by omega) (by omega) h1

set_option maxHeartbeats 2000000 in
theorem join0 (a b : Nat) (W : World) (ha : a < 4294967296) (hb : b < 4294967296) :
    Calls Try.prog 48 #[.int .i64 0, .int .u32 a, .int .u32 b] W fun e W' => e = .returned (.int .u32 (joinN 0 a b : Nat)) ∧ W = W' := by
  go_enter Try.func48, Try.ntmps48
  go_wp2
  all_goals go_ret
  all_goals exact ⟨ret_u32 (by simp [joinN]), rfl⟩

set_option maxHeartbeats 2000000 in
theorem join1 (a b : Nat) (W : World) (ha : a < 4294967296) (hb : b < 4294967296) :
    Calls Try.prog 48 #[.int .i64 1, .int .u32 a, .int .u32 b] W fun e W' => e = .returned (.int .u32 (joinN 1 a b : Nat)) ∧ W = W' := by
  go_enter Try.func48, Try.ntmps48
  go_wp2
  all_goals go_ret
  all_goals exact ⟨ret_u32 (by simp [joinN]), rfl⟩

set_option maxHeartbeats 2000000 in
theorem join2 (a b : Nat) (W : World) (ha : a < 4294967296) (hb : b < 4294967296) :
    Calls Try.prog 48 #[.int .i64 2, .int .u32 a, .int .u32 b] W fun e W' => e = .returned (.int .u32 (joinN 2 a b : Nat)) ∧ W = W' := by
  go_enter Try.func48, Try.ntmps48
  go_wp2
  all_goals go_ret
  all_goals exact ⟨ret_u32 (by simp [joinN]; omega), rfl⟩

set_option maxHeartbeats 2000000 in
theorem join3 (a b : Nat) (W : World) (ha : a < 4294967296) (hb : b < 4294967296) :
    Calls Try.prog 48 #[.int .i64 3, .int .u32 a, .int .u32 b] W fun e W' => e = .returned (.int .u32 (joinN 3 a b : Nat)) ∧ W = W' := by
  go_enter Try.func48, Try.ntmps48
  go_wp2
  all_goals go_ret
  all_goals exact ⟨ret_u32 (by simp [joinN]; omega), rfl⟩

set_option maxHeartbeats 2000000 in
theorem join4 (a b : Nat) (W : World) (ha : a < 4294967296) (hb : b < 4294967296) :
    Calls Try.prog 48 #[.int .i64 4, .int .u32 a, .int .u32 b] W fun e W' => e = .returned (.int .u32 (joinN 4 a b : Nat)) ∧ W = W' := by
  go_enter Try.func48, Try.ntmps48
  go_wp2
  all_goals go_ret
  all_goals exact ⟨ret_u32 ((bits_xor a b ha hb).trans (by simp [joinN])), rfl⟩

set_option maxHeartbeats 2000000 in
theorem join5 (a b : Nat) (W : World) (ha : a < 4294967296) (hb : b < 4294967296) :
    Calls Try.prog 48 #[.int .i64 5, .int .u32 a, .int .u32 b] W fun e W' => e = .returned (.int .u32 (joinN 5 a b : Nat)) ∧ W = W' := by
  go_enter Try.func48, Try.ntmps48
  go_wp2
  all_goals go_ret
  all_goals exact ⟨ret_u32 ((bits_and a b ha hb).trans (by simp [joinN])), rfl⟩

set_option maxHeartbeats 2000000 in
theorem join6 (a b : Nat) (W : World) (ha : a < 4294967296) (hb : b < 4294967296) :
    Calls Try.prog 48 #[.int .i64 6, .int .u32 a, .int .u32 b] W fun e W' => e = .returned (.int .u32 (joinN 6 a b : Nat)) ∧ W = W' := by
  go_enter Try.func48, Try.ntmps48
  go_wp2
  all_goals go_ret
  all_goals exact ⟨ret_u32 ((bits_or a b ha hb).trans (by simp [joinN])), rfl⟩

set_option maxHeartbeats 2000000 in
theorem joinX (w : Int) (a b : Nat) (W : World) (h0 : w ≠ 0) (h1 : w ≠ 1) (h2 : w ≠ 2) (h3 : w ≠ 3) (h4 : w ≠ 4) (h5 : w ≠ 5) (h6 : w ≠ 6) :
    Calls Try.prog 48 #[.int .i64 w, .int .u32 a, .int .u32 b] W fun e W' => e = .returned (.int .u32 (joinN w a b : Nat)) ∧ W = W' := by
  have hz : joinN w a b = 0 := by simp [joinN, h0, h1, h2, h3, h4, h5, h6]
  rw [hz]
  have e0 : (w == 0) = false := by simpa using h0
  have e1 : (w == 1) = false := by simpa using h1
  have e2 : (w == 2) = false := by simpa using h2
  have e3 : (w == 3) = false := by simpa using h3
  have e4 : (w == 4) = false := by simpa using h4
  have e5 : (w == 5) = false := by simpa using h5
  have e6 : (w == 6) = false := by simpa using h6
  clear h0 h1 h2 h3 h4 h5 h6 hz
  go_enter Try.func48, Try.ntmps48
  go_wp2
  go_ret
  exact ⟨rfl, rfl⟩

theorem join_any (w : Int) (a b : Nat) (W : World) (ha : a < 4294967296) (hb : b < 4294967296) :
    Calls Try.prog 48 #[.int .i64 w, .int .u32 a, .int .u32 b] W fun e W' => e = .returned (.int .u32 (joinN w a b : Nat)) ∧ W = W' := by
  by_cases h0 : w = 0
  · subst h0; exact join0 a b W ha hb
  by_cases h1 : w = 1
  · subst h1; exact join1 a b W ha hb
  by_cases h2 : w = 2
  · subst h2; exact join2 a b W ha hb
  by_cases h3 : w = 3
  · subst h3; exact join3 a b W ha hb
  by_cases h4 : w = 4
  · subst h4; exact join4 a b W ha hb
  by_cases h5 : w = 5
  · subst h5; exact join5 a b W ha hb
  by_cases h6 : w = 6
  · subst h6; exact join6 a b W ha hb
  exact joinX w a b W h0 h1 h2 h3 h4 h5 h6

set_option maxHeartbeats 2000000 in
theorem map0 (a b : Nat) (W : World) (ha : a < 4294967296) (hb : b < 4294967296) :
    Calls Try.prog 33 #[.int .i64 0, .int .u32 a, .int .u32 b] W fun e W' => e = .returned (.int .u32 (mapN 0 a b : Nat)) ∧ W = W' := by
  go_enter Try.func33, Try.ntmps33
  go_wp2
  all_goals go_ret
  all_goals exact ⟨ret_u32 (by simp [mapN]), rfl⟩

set_option maxHeartbeats 2000000 in
theorem map1 (a b : Nat) (W : World) (ha : a < 4294967296) (hb : b < 4294967296) :
    Calls Try.prog 33 #[.int .i64 1, .int .u32 a, .int .u32 b] W fun e W' => e = .returned (.int .u32 (mapN 1 a b : Nat)) ∧ W = W' := by
  go_enter Try.func33, Try.ntmps33
  go_wp2
  all_goals go_ret
  all_goals exact ⟨ret_u32 (by simp [mapN]), rfl⟩

set_option maxHeartbeats 2000000 in
theorem map2 (a b : Nat) (W : World) (ha : a < 4294967296) (hb : b < 4294967296) :
    Calls Try.prog 33 #[.int .i64 2, .int .u32 a, .int .u32 b] W fun e W' => e = .returned (.int .u32 (mapN 2 a b : Nat)) ∧ W = W' := by
  go_enter Try.func33, Try.ntmps33
  go_wp2
  all_goals go_ret
  all_goals exact ⟨ret_u32 ((bits_xor b a hb ha).trans (by simp [mapN])), rfl⟩

set_option maxHeartbeats 2000000 in
theorem map3 (a b : Nat) (W : World) (ha : a < 4294967296) (hb : b < 4294967296) :
    Calls Try.prog 33 #[.int .i64 3, .int .u32 a, .int .u32 b] W fun e W' => e = .returned (.int .u32 (mapN 3 a b : Nat)) ∧ W = W' := by
  go_enter Try.func33, Try.ntmps33
  go_wp2
  all_goals go_ret
  all_goals exact ⟨ret_u32 (by simp [mapN]), rfl⟩

set_option maxHeartbeats 2000000 in
theorem map4 (a b : Nat) (W : World) (ha : a < 4294967296) (hb : b < 4294967296) :
    Calls Try.prog 33 #[.int .i64 4, .int .u32 a, .int .u32 b] W fun e W' => e = .returned (.int .u32 (mapN 4 a b : Nat)) ∧ W = W' := by
  go_enter Try.func33, Try.ntmps33
  go_wp2
  all_goals go_ret
  all_goals exact ⟨ret_u32 (by simp [mapN]), rfl⟩

set_option maxHeartbeats 2000000 in
theorem map5 (a b : Nat) (W : World) (ha : a < 4294967296) (hb : b < 4294967296) :
    Calls Try.prog 33 #[.int .i64 5, .int .u32 a, .int .u32 b] W fun e W' => e = .returned (.int .u32 (mapN 5 a b : Nat)) ∧ W = W' := by
  go_enter Try.func33, Try.ntmps33
  go_wp2
  all_goals go_ret
  all_goals exact ⟨ret_u32 (by simp [mapN]), rfl⟩

set_option maxHeartbeats 2000000 in
theorem mapX (w : Int) (a b : Nat) (W : World) (h0 : w ≠ 0) (h1 : w ≠ 1) (h2 : w ≠ 2) (h3 : w ≠ 3) (h4 : w ≠ 4) (h5 : w ≠ 5) :
    Calls Try.prog 33 #[.int .i64 w, .int .u32 a, .int .u32 b] W fun e W' => e = .returned (.int .u32 (mapN w a b : Nat)) ∧ W = W' := by
  have hz : mapN w a b = 0 := by simp [mapN, h0, h1, h2, h3, h4, h5]
  rw [hz]
  have e0 : (w == 0) = false := by simpa using h0
  have e1 : (w == 1) = false := by simpa using h1
  have e2 : (w == 2) = false := by simpa using h2
  have e3 : (w == 3) = false := by simpa using h3
  have e4 : (w == 4) = false := by simpa using h4
  have e5 : (w == 5) = false := by simpa using h5
  clear h0 h1 h2 h3 h4 h5 hz
  go_enter Try.func33, Try.ntmps33
  go_wp2
  go_ret
  exact ⟨rfl, rfl⟩

theorem map_any (w : Int) (a b : Nat) (W : World) (ha : a < 4294967296) (hb : b < 4294967296) :
    Calls Try.prog 33 #[.int .i64 w, .int .u32 a, .int .u32 b] W fun e W' => e = .returned (.int .u32 (mapN w a b : Nat)) ∧ W = W' := by
  by_cases h0 : w = 0
  · subst h0; exact map0 a b W ha hb
  by_cases h1 : w = 1
  · subst h1; exact map1 a b W ha hb
  by_cases h2 : w = 2
  · subst h2; exact map2 a b W ha hb
  by_cases h3 : w = 3
  · subst h3; exact map3 a b W ha hb
  by_cases h4 : w = 4
  · subst h4; exact map4 a b W ha hb
  by_cases h5 : w = 5
  · subst h5; exact map5 a b W ha hb
  exact mapX w a b W h0 h1 h2 h3 h4 h5

set_option maxHeartbeats 2000000 in
theorem test0 (a b : Nat) (W : World) (ha : a < 4294967296) (hb : b < 4294967296) :
    Calls Try.prog 35 #[.int .i64 0, .int .u32 a, .int .u32 b] W fun e W' => e = .returned (.bool (testB 0 a b)) ∧ W = W' := by
  go_enter Try.func35, Try.ntmps35
  go_wp2
  all_goals go_ret
  all_goals exact ⟨ret_bool (by simp [testB]), rfl⟩

set_option maxHeartbeats 2000000 in
theorem test1 (a b : Nat) (W : World) (ha : a < 4294967296) (hb : b < 4294967296) :
    Calls Try.prog 35 #[.int .i64 1, .int .u32 a, .int .u32 b] W fun e W' => e = .returned (.bool (testB 1 a b)) ∧ W = W' := by
  go_enter Try.func35, Try.ntmps35
  go_wp2
  all_goals go_ret
  all_goals exact ⟨ret_bool (by simp [testB]), rfl⟩

set_option maxHeartbeats 2000000 in
theorem test2 (a b : Nat) (W : World) (ha : a < 4294967296) (hb : b < 4294967296) :
    Calls Try.prog 35 #[.int .i64 2, .int .u32 a, .int .u32 b] W fun e W' => e = .returned (.bool (testB 2 a b)) ∧ W = W' := by
  go_enter Try.func35, Try.ntmps35
  go_wp2
  all_goals go_ret
  all_goals exact ⟨ret_bool (by rw [bits_and b a hb ha]; simp [testB]; rw [Bool.eq_iff_iff]; simp), rfl⟩

set_option maxHeartbeats 2000000 in
theorem test3 (a b : Nat) (W : World) (ha : a < 4294967296) (hb : b < 4294967296) :
    Calls Try.prog 35 #[.int .i64 3, .int .u32 a, .int .u32 b] W fun e W' => e = .returned (.bool (testB 3 a b)) ∧ W = W' := by
  go_enter Try.func35, Try.ntmps35
  go_wp2
  all_goals go_ret
  all_goals exact ⟨ret_bool (by first | (simp [testB]; intro h; omega) | (simp [testB]; rw [Bool.eq_iff_iff]; simp; omega) | (rw [Bool.eq_iff_iff]; simp [testB]; omega)), rfl⟩

set_option maxHeartbeats 2000000 in
theorem testX (w : Int) (a b : Nat) (W : World) (h0 : w ≠ 0) (h1 : w ≠ 1) (h2 : w ≠ 2) (h3 : w ≠ 3) :
    Calls Try.prog 35 #[.int .i64 w, .int .u32 a, .int .u32 b] W fun e W' => e = .returned (.bool (testB w a b)) ∧ W = W' := by
  have hz : testB w a b = false := by simp [testB, h0, h1, h2, h3]
  rw [hz]
  have e0 : (w == 0) = false := by simpa using h0
  have e1 : (w == 1) = false := by simpa using h1
  have e2 : (w == 2) = false := by simpa using h2
  have e3 : (w == 3) = false := by simpa using h3
  clear h0 h1 h2 h3 hz
  go_enter Try.func35, Try.ntmps35
  go_wp2
  go_ret
  exact ⟨rfl, rfl⟩

theorem test_any (w : Int) (a b : Nat) (W : World) (ha : a < 4294967296) (hb : b < 4294967296) :
    Calls Try.prog 35 #[.int .i64 w, .int .u32 a, .int .u32 b] W fun e W' => e = .returned (.bool (testB w a b)) ∧ W = W' := by
  by_cases h0 : w = 0
  · subst h0; exact test0 a b W ha hb
  by_cases h1 : w = 1
  · subst h1; exact test1 a b W ha hb
  by_cases h2 : w = 2
  · subst h2; exact test2 a b W ha hb
  by_cases h3 : w = 3
  · subst h3; exact test3 a b W ha hb
  exact testX w a b W h0 h1 h2 h3
end Go.Proofs.Ytbianedgogdeeaa
