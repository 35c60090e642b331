/- Fold: Start, Join, Map, Test of the reference. Written by genfoldr.py. -/
import Derived.Test.YtbianedgogdeeaaFbits
namespace Go.Proofs.Ytbianedgogdeeaa
open Go.RowKit Fold
set_option linter.unusedVariables false

theorem u64_tmod (n : Nat) : (IntKind.u64.wrap (n : Int)).tmod 4294967296 = ((n % 4294967296 : Nat) : Int) := by
  have h : IntKind.u64.wrap (n : Int) = (n : Int) % 18446744073709551616 := rfl
  rw [h, Int.tmod_eq_emod_of_nonneg (by omega)]
  omega
theorem u64_mul (x y : Nat) : (IntKind.u64.wrap ((x : Int) * y)).tmod 4294967296 % 4294967296 = ((x * y % 4294967296 : Nat) : Int) := by
  rw [← Int.natCast_mul, u64_tmod]
  omega
theorem u64_mul5 (x y : Nat) : (IntKind.u64.wrap ((IntKind.u64.wrap ((x : Int) * x)).tmod 4294967296 + y)).tmod 4294967296 % 4294967296 = (((x * x + y) % 4294967296 : Nat) : Int) := by
  rw [← Int.natCast_mul, u64_tmod, ← Int.natCast_add, u64_tmod]
  omega
theorem div_back (a b : Nat) (ha : 0 < a) (hb : b < 4294967296) : (((b : Int) - (b : Int) / a % 4294967296 * a) % 4294967296 == 0) = decide (b % a = 0) := by
  have h1 : (b : Int) / a = ((b / a : Nat) : Int) := (Int.natCast_ediv b a).symm
  have h2 : b / a ≤ b := Nat.div_le_self _ _
  have h4 := Nat.div_add_mod b a
  have h6 := Nat.mod_le b a
  rw [h1]
  generalize b / a = q at h2 h4 ⊢
  generalize b % a = r at h4 h6 ⊢
  have h3 : (q : Int) % 4294967296 = q := by omega
  have h5 : (b : Int) - (q : Int) * a = r := by
    rw [← Int.natCast_mul, Nat.mul_comm]
    omega
  rw [h3, h5, Bool.eq_iff_iff]
  simp
  omega

set_option maxHeartbeats 2000000 in
theorem rstart1 (w : Int) (v : Nat) (W : World) (hw : w = 1) :
    Calls Try.prog 68 #[.int .i64 w, .int .u32 v] W fun e W' => e = .returned (.int .u32 (1 : Int)) ∧ W = W' := by
  subst hw
  go_enter Try.func68, Try.ntmps68
  go_wp2
  go_ret
  exact ⟨rfl, rfl⟩

set_option maxHeartbeats 2000000 in
theorem rstartL (w : Int) (v : Nat) (W : World) (hw : w < 0) :
    Calls Try.prog 68 #[.int .i64 w, .int .u32 v] W fun e W' => e = .returned (.int .u32 (0 : Int)) ∧ W = W' := by
  have e1 : (w == 1) = false := by simp; omega
  go_enter Try.func68, Try.ntmps68
  go_wp2
  go_ret
  exact ⟨rfl, rfl⟩

set_option maxHeartbeats 2000000 in
theorem rstartG (w : Int) (v : Nat) (W : World) (hw : 6 < w) :
    Calls Try.prog 68 #[.int .i64 w, .int .u32 v] W fun e W' => e = .returned (.int .u32 (0 : Int)) ∧ W = W' := by
  have e1 : (w == 1) = false := by simp; omega
  have hw0 : 0 ≤ w := by omega
  go_enter Try.func68, Try.ntmps68
  go_wp2
  go_ret
  exact ⟨rfl, rfl⟩

set_option maxHeartbeats 2000000 in
theorem rstartO (w : Int) (v : Nat) (W : World) (h0 : 0 ≤ w) (h6 : w ≤ 6) (h1 : w ≠ 1) :
    Calls Try.prog 68 #[.int .i64 w, .int .u32 v] W fun e W' => e = .returned (.int .u32 (v : Nat)) ∧ W = W' := by
  have e1 : (w == 1) = false := by simpa using h1
  clear h1
  go_enter Try.func68, Try.ntmps68
  go_wp2
  go_ret
  exact ⟨rfl, rfl⟩

theorem rstart_any (w : Int) (v : Nat) (W : World) :
    Calls Try.prog 68 #[.int .i64 w, .int .u32 v] W fun e W' => e = .returned (.int .u32 (startN w v : Nat)) ∧ W = W' := by
  by_cases h1 : w = 1
  · have : startN w v = 1 := by simp [startN, h1]
    rw [this]; exact rstart1 w v W h1
  by_cases h0 : w < 0
  · have : startN w v = 0 := by simp [startN, h1, h0]
    rw [this]; exact rstartL w v W h0
  by_cases h6 : 6 < w
  · have : startN w v = 0 := by simp [startN, h1, h6]
    rw [this]; exact rstartG w v W h6
  have : startN w v = v := by simp [startN, h1, h0, h6]
  rw [this]; exact rstartO w v W (by omega) (by omega) h1

set_option maxHeartbeats 2000000 in
theorem rjoin0 (a b : Nat) (W : World) (ha : a < 4294967296) (hb : b < 4294967296) :
    Calls Try.prog 56 #[.int .i64 0, .int .u32 a, .int .u32 b] W fun e W' => e = .returned (.int .u32 (joinN 0 a b : Nat)) ∧ W = W' := by
  go_enter Try.func56, Try.ntmps56
  go_wp2
  all_goals go_ret
  all_goals exact ⟨ret_u32 (by simp [joinN]), rfl⟩

set_option maxHeartbeats 2000000 in
theorem rjoin1 (a b : Nat) (W : World) (ha : a < 4294967296) (hb : b < 4294967296) :
    Calls Try.prog 56 #[.int .i64 1, .int .u32 a, .int .u32 b] W fun e W' => e = .returned (.int .u32 (joinN 1 a b : Nat)) ∧ W = W' := by
  go_enter Try.func56, Try.ntmps56
  go_wp2
  all_goals go_ret
  all_goals exact ⟨ret_u32 (by simp [joinN]), rfl⟩

set_option maxHeartbeats 2000000 in
theorem rjoin2 (a b : Nat) (W : World) (ha : a < 4294967296) (hb : b < 4294967296) :
    Calls Try.prog 56 #[.int .i64 2, .int .u32 a, .int .u32 b] W fun e W' => e = .returned (.int .u32 (joinN 2 a b : Nat)) ∧ W = W' := by
  go_enter Try.func56, Try.ntmps56
  go_wp2
  all_goals go_ret
  all_goals exact ⟨ret_u32 (by simp [joinN]; omega), rfl⟩

set_option maxHeartbeats 2000000 in
theorem rjoin3 (a b : Nat) (W : World) (ha : a < 4294967296) (hb : b < 4294967296) :
    Calls Try.prog 56 #[.int .i64 3, .int .u32 a, .int .u32 b] W fun e W' => e = .returned (.int .u32 (joinN 3 a b : Nat)) ∧ W = W' := by
  go_enter Try.func56, Try.ntmps56
  go_wp2
  all_goals go_ret
  all_goals exact ⟨ret_u32 (by simp [joinN]; omega), rfl⟩

set_option maxHeartbeats 2000000 in
theorem rjoin4 (a b : Nat) (W : World) (ha : a < 4294967296) (hb : b < 4294967296) :
    Calls Try.prog 56 #[.int .i64 4, .int .u32 a, .int .u32 b] W fun e W' => e = .returned (.int .u32 (joinN 4 a b : Nat)) ∧ W = W' := by
  have hl : bitsN 32 a b (opF true false) = a ^^^ b := bitsN_xor 32 a b ha hb
  go_enter Try.func56, Try.ntmps56
  go_wp2_with fail
  refine (bits_tf a b _ ha hb).mono ?_
  rintro e w' ⟨rfl, rfl⟩
  rw [hl]
  go_wp2
  go_ret
  exact ⟨ret_u32 (by simp [joinN]), rfl⟩

set_option maxHeartbeats 2000000 in
theorem rjoin5 (a b : Nat) (W : World) (ha : a < 4294967296) (hb : b < 4294967296) :
    Calls Try.prog 56 #[.int .i64 5, .int .u32 a, .int .u32 b] W fun e W' => e = .returned (.int .u32 (joinN 5 a b : Nat)) ∧ W = W' := by
  have hl : bitsN 32 a b (opF false true) = a &&& b := bitsN_and 32 a b ha hb
  go_enter Try.func56, Try.ntmps56
  go_wp2_with fail
  refine (bits_ft a b _ ha hb).mono ?_
  rintro e w' ⟨rfl, rfl⟩
  rw [hl]
  go_wp2
  go_ret
  exact ⟨ret_u32 (by simp [joinN]), rfl⟩

set_option maxHeartbeats 2000000 in
theorem rjoin6 (a b : Nat) (W : World) (ha : a < 4294967296) (hb : b < 4294967296) :
    Calls Try.prog 56 #[.int .i64 6, .int .u32 a, .int .u32 b] W fun e W' => e = .returned (.int .u32 (joinN 6 a b : Nat)) ∧ W = W' := by
  have hl : bitsN 32 a b (opF true true) = a ||| b := bitsN_or 32 a b ha hb
  go_enter Try.func56, Try.ntmps56
  go_wp2_with fail
  refine (bits_tt a b _ ha hb).mono ?_
  rintro e w' ⟨rfl, rfl⟩
  rw [hl]
  go_wp2
  go_ret
  exact ⟨ret_u32 (by simp [joinN]), rfl⟩

set_option maxHeartbeats 2000000 in
theorem rjoinX (w : Int) (a b : Nat) (W : World) (h0 : w ≠ 0) (h1 : w ≠ 1) (h2 : w ≠ 2) (h3 : w ≠ 3) (h4 : w ≠ 4) (h5 : w ≠ 5) (h6 : w ≠ 6) :
    Calls Try.prog 56 #[.int .i64 w, .int .u32 a, .int .u32 b] W fun e W' => e = .returned (.int .u32 (joinN w a b : Nat)) ∧ W = W' := by
  have hz : joinN w a b = 0 := by simp [joinN, h0, h1, h2, h3, h4, h5, h6]
  rw [hz]
  have e0 : (w == 0) = false := by simpa using h0
  have e1 : (w == 1) = false := by simpa using h1
  have e2 : (w == 2) = false := by simpa using h2
  have e3 : (w == 3) = false := by simpa using h3
  have e4 : (w == 4) = false := by simpa using h4
  have e5 : (w == 5) = false := by simpa using h5
  have e6 : (w == 6) = false := by simpa using h6
  clear h0 h1 h2 h3 h4 h5 h6 hz
  go_enter Try.func56, Try.ntmps56
  go_wp2
  go_ret
  exact ⟨rfl, rfl⟩

theorem rjoin_any (w : Int) (a b : Nat) (W : World) (ha : a < 4294967296) (hb : b < 4294967296) :
    Calls Try.prog 56 #[.int .i64 w, .int .u32 a, .int .u32 b] W fun e W' => e = .returned (.int .u32 (joinN w a b : Nat)) ∧ W = W' := by
  by_cases h0 : w = 0
  · subst h0; exact rjoin0 a b W ha hb
  by_cases h1 : w = 1
  · subst h1; exact rjoin1 a b W ha hb
  by_cases h2 : w = 2
  · subst h2; exact rjoin2 a b W ha hb
  by_cases h3 : w = 3
  · subst h3; exact rjoin3 a b W ha hb
  by_cases h4 : w = 4
  · subst h4; exact rjoin4 a b W ha hb
  by_cases h5 : w = 5
  · subst h5; exact rjoin5 a b W ha hb
  by_cases h6 : w = 6
  · subst h6; exact rjoin6 a b W ha hb
  exact rjoinX w a b W h0 h1 h2 h3 h4 h5 h6

set_option maxHeartbeats 2000000 in
theorem rmap0 (a b : Nat) (W : World) (ha : a < 4294967296) (hb : b < 4294967296) :
    Calls Try.prog 70 #[.int .i64 0, .int .u32 a, .int .u32 b] W fun e W' => e = .returned (.int .u32 (mapN 0 a b : Nat)) ∧ W = W' := by
  go_enter Try.func70, Try.ntmps70
  go_wp2
  all_goals go_ret
  all_goals exact ⟨ret_u32 (by simp [mapN]), rfl⟩

set_option maxHeartbeats 2000000 in
theorem rmap1 (a b : Nat) (W : World) (ha : a < 4294967296) (hb : b < 4294967296) :
    Calls Try.prog 70 #[.int .i64 1, .int .u32 a, .int .u32 b] W fun e W' => e = .returned (.int .u32 (mapN 1 a b : Nat)) ∧ W = W' := by
  go_enter Try.func70, Try.ntmps70
  go_wp2
  all_goals go_ret
  all_goals exact ⟨ret_u32 ((u64_mul b a).trans (by simp [mapN])), rfl⟩

set_option maxHeartbeats 2000000 in
theorem rmap2 (a b : Nat) (W : World) (ha : a < 4294967296) (hb : b < 4294967296) :
    Calls Try.prog 70 #[.int .i64 2, .int .u32 a, .int .u32 b] W fun e W' => e = .returned (.int .u32 (mapN 2 a b : Nat)) ∧ W = W' := by
  have hl : bitsN 32 b a (opF true false) = b ^^^ a := bitsN_xor 32 b a hb ha
  go_enter Try.func70, Try.ntmps70
  go_wp2_with fail
  refine (bits_tf b a _ hb ha).mono ?_
  rintro e w' ⟨rfl, rfl⟩
  rw [hl]
  go_wp2
  go_ret
  exact ⟨ret_u32 (by simp [mapN]), rfl⟩

set_option maxHeartbeats 2000000 in
theorem rmap3 (a b : Nat) (W : World) (ha : a < 4294967296) (hb : b < 4294967296) :
    Calls Try.prog 70 #[.int .i64 3, .int .u32 a, .int .u32 b] W fun e W' => e = .returned (.int .u32 (mapN 3 a b : Nat)) ∧ W = W' := by
  go_enter Try.func70, Try.ntmps70
  go_wp2_with fail
  go_loop [7, 9] (fun x i => ∃ k v : Nat, k ≤ a % 32 ∧ v ≤ b ∧ Hid (v = b / 2 ^ k) ∧ x = .int .u64 v ∧ i = .int .u64 k) (fun _ i => a % 32 - (intOf i).toNat)
  case atStart => exact ⟨0, b, by omega, by omega, Lib.hid (by simp), rfl, rfl⟩
  case round =>
    obtain ⟨k, v, hk, hv, hv2, rfl, rfl⟩ := hrel
    by_cases hlt : k < a % 32
    · go_wp2_with fail
      go_round
      case rel =>
        refine ⟨k + 1, v / 2, ?_, ?_, ?_, ?_, ?_⟩
        · omega
        · omega
        · exact Lib.hid (by rw [hv2.out, Nat.pow_succ, Nat.div_div_eq_div_mul])
        · go_num
        · go_num
      case measure => simp [intOf]; omega
    · have hf : v = mapN 3 a b := by
        have : k = a % 32 := by omega
        rw [hv2.out, this]
        simp [mapN]
      have hf := Lib.hid hf
      go_wp2_with fail
      go_ret
      exact ⟨ret_u32 (by rw [← hf.out]), rfl⟩

set_option maxHeartbeats 2000000 in
theorem rmap4 (a b : Nat) (W : World) (ha : a < 4294967296) (hb : b < 4294967296) :
    Calls Try.prog 70 #[.int .i64 4, .int .u32 a, .int .u32 b] W fun e W' => e = .returned (.int .u32 (mapN 4 a b : Nat)) ∧ W = W' := by
  go_enter Try.func70, Try.ntmps70
  go_wp2
  all_goals go_ret
  all_goals exact ⟨ret_u32 (by simp [mapN]), rfl⟩

set_option maxHeartbeats 2000000 in
theorem rmap5 (a b : Nat) (W : World) (ha : a < 4294967296) (hb : b < 4294967296) :
    Calls Try.prog 70 #[.int .i64 5, .int .u32 a, .int .u32 b] W fun e W' => e = .returned (.int .u32 (mapN 5 a b : Nat)) ∧ W = W' := by
  go_enter Try.func70, Try.ntmps70
  go_wp2
  all_goals go_ret
  all_goals exact ⟨ret_u32 ((u64_mul5 b a).trans (by simp [mapN])), rfl⟩

set_option maxHeartbeats 2000000 in
theorem rmapX (w : Int) (a b : Nat) (W : World) (h0 : w ≠ 0) (h1 : w ≠ 1) (h2 : w ≠ 2) (h3 : w ≠ 3) (h4 : w ≠ 4) (h5 : w ≠ 5) :
    Calls Try.prog 70 #[.int .i64 w, .int .u32 a, .int .u32 b] W fun e W' => e = .returned (.int .u32 (mapN w a b : Nat)) ∧ W = W' := by
  have hz : mapN w a b = 0 := by simp [mapN, h0, h1, h2, h3, h4, h5]
  rw [hz]
  have e0 : (w == 0) = false := by simpa using h0
  have e1 : (w == 1) = false := by simpa using h1
  have e2 : (w == 2) = false := by simpa using h2
  have e3 : (w == 3) = false := by simpa using h3
  have e4 : (w == 4) = false := by simpa using h4
  have e5 : (w == 5) = false := by simpa using h5
  clear h0 h1 h2 h3 h4 h5 hz
  go_enter Try.func70, Try.ntmps70
  go_wp2
  go_ret
  exact ⟨rfl, rfl⟩

theorem rmap_any (w : Int) (a b : Nat) (W : World) (ha : a < 4294967296) (hb : b < 4294967296) :
    Calls Try.prog 70 #[.int .i64 w, .int .u32 a, .int .u32 b] W fun e W' => e = .returned (.int .u32 (mapN w a b : Nat)) ∧ W = W' := by
  by_cases h0 : w = 0
  · subst h0; exact rmap0 a b W ha hb
  by_cases h1 : w = 1
  · subst h1; exact rmap1 a b W ha hb
  by_cases h2 : w = 2
  · subst h2; exact rmap2 a b W ha hb
  by_cases h3 : w = 3
  · subst h3; exact rmap3 a b W ha hb
  by_cases h4 : w = 4
  · subst h4; exact rmap4 a b W ha hb
  by_cases h5 : w = 5
  · subst h5; exact rmap5 a b W ha hb
  exact rmapX w a b W h0 h1 h2 h3 h4 h5

set_option maxHeartbeats 2000000 in
theorem rtest0 (a b : Nat) (W : World) (ha : a < 4294967296) (hb : b < 4294967296) :
    Calls Try.prog 71 #[.int .i64 0, .int .u32 a, .int .u32 b] W fun e W' => e = .returned (.bool (testB 0 a b)) ∧ W = W' := by
  go_enter Try.func71, Try.ntmps71
  go_wp2
  all_goals go_ret
  all_goals exact ⟨ret_bool (by simp [testB]), rfl⟩

set_option maxHeartbeats 2000000 in
theorem rtest1 (a b : Nat) (W : World) (ha : a < 4294967296) (hb : b < 4294967296) :
    Calls Try.prog 71 #[.int .i64 1, .int .u32 a, .int .u32 b] W fun e W' => e = .returned (.bool (testB 1 a b)) ∧ W = W' := by
  go_enter Try.func71, Try.ntmps71
  go_wp2
  all_goals go_ret
  all_goals exact ⟨ret_bool (by simp [testB]; try (rw [Bool.eq_iff_iff]; simp)), rfl⟩

set_option maxHeartbeats 2000000 in
theorem rtest2 (a b : Nat) (W : World) (ha : a < 4294967296) (hb : b < 4294967296) :
    Calls Try.prog 71 #[.int .i64 2, .int .u32 a, .int .u32 b] W fun e W' => e = .returned (.bool (testB 2 a b)) ∧ W = W' := by
  have hl : bitsN 32 b a (opF false true) = b &&& a := bitsN_and 32 b a hb ha
  go_enter Try.func71, Try.ntmps71
  go_wp2_with fail
  refine (bits_ft b a _ hb ha).mono ?_
  rintro e w' ⟨rfl, rfl⟩
  rw [hl]
  go_wp2
  go_ret
  exact ⟨ret_bool (by simp [testB]; rw [Bool.eq_iff_iff]; simp; omega), rfl⟩

set_option maxHeartbeats 2000000 in
theorem rtest3 (a b : Nat) (W : World) (ha : a < 4294967296) (hb : b < 4294967296) :
    Calls Try.prog 71 #[.int .i64 3, .int .u32 a, .int .u32 b] W fun e W' => e = .returned (.bool (testB 3 a b)) ∧ W = W' := by
  by_cases h0 : 0 < a
  · go_enter Try.func71, Try.ntmps71
    go_wp2
    go_ret
    exact ⟨ret_bool ((div_back a b h0 hb).trans (by simp [testB]; omega)), rfl⟩
  · obtain rfl : a = 0 := by omega
    go_enter Try.func71, Try.ntmps71
    go_wp2
    go_ret
    exact ⟨ret_bool (by simp [testB]), rfl⟩

set_option maxHeartbeats 2000000 in
theorem rtestX (w : Int) (a b : Nat) (W : World) (h0 : w ≠ 0) (h1 : w ≠ 1) (h2 : w ≠ 2) (h3 : w ≠ 3) :
    Calls Try.prog 71 #[.int .i64 w, .int .u32 a, .int .u32 b] W fun e W' => e = .returned (.bool (testB w a b)) ∧ W = W' := by
  have hz : testB w a b = false := by simp [testB, h0, h1, h2, h3]
  rw [hz]
  have e0 : (w == 0) = false := by simpa using h0
  have e1 : (w == 1) = false := by simpa using h1
  have e2 : (w == 2) = false := by simpa using h2
  have e3 : (w == 3) = false := by simpa using h3
  clear h0 h1 h2 h3 hz
  go_enter Try.func71, Try.ntmps71
  go_wp2
  go_ret
  exact ⟨rfl, rfl⟩

theorem rtest_any (w : Int) (a b : Nat) (W : World) (ha : a < 4294967296) (hb : b < 4294967296) :
    Calls Try.prog 71 #[.int .i64 w, .int .u32 a, .int .u32 b] W fun e W' => e = .returned (.bool (testB w a b)) ∧ W = W' := by
  by_cases h0 : w = 0
  · subst h0; exact rtest0 a b W ha hb
  by_cases h1 : w = 1
  · subst h1; exact rtest1 a b W ha hb
  by_cases h2 : w = 2
  · subst h2; exact rtest2 a b W ha hb
  by_cases h3 : w = 3
  · subst h3; exact rtest3 a b W ha hb
  exact rtestX w a b W h0 h1 h2 h3
end Go.Proofs.Ytbianedgogdeeaa
