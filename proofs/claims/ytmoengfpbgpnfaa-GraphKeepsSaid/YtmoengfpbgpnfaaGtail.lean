/- Graph: right, where all its inputs are right: its form. One theorem a kind. -/
import Derived.Test.YtmoengfpbgpnfaaGright
namespace Go.Proofs.Ytmoengfpbgpnfaa
open Go.RowKit
set_option linter.unusedVariables false

set_option maxHeartbeats 4000000 in
theorem right_tail1 (ins : List Int) (arg num rounds test lim : Int) (i n cap : Nat) (ao : Option Addr) (w : World) (B : Nat) (hB : B ≤ w.heap.size) (hx : SlA B 1 (RI .i64) w ao cap ins) (_hi : i < n) (_hn : n ≤ 16) (hs : i + 1 ≠ n)
    (hl : ins.length = 0) (hgood : ∀ k (hk : k < ins.length), 0 ≤ ins[k] ∧ ins[k] < i) :
    Calls Try.prog 18 #[.agg #[.int .i64 1, .slice ao ins.length cap, .int .i64 arg, .int .u32 num, .int .i64 rounds, .int .i64 test, .int .u32 lim], .int .i64 i, .int .i64 n] w fun e w' => e = .returned (.bool (formB ⟨1, ins, arg, num, rounds, test, lim⟩)) ∧ Below w.heap.size w w' := by
  have e2 : ((i : Int) == (n : Int) - 1) = false := by simp; omega
  have e3 : ((0 : Int) != (wantN 1 : Nat)) = false := by decide
  have Hl := Lib.hid hl
  rw [hl]
  clear hs hx hl
  go_enter Try.func18, Try.ntmps18
  go_wp2_with fail
  go_quiet (first | (go_at_call 17; exact Calls.quiet_of_same (within_t _ _ _ _ (by omega) (by omega))) | (go_at_call 22; exact Calls.quiet_of_same (inputs_any _ _)))
  go_wp2_with fail
  go_loop [38] (fun k => ∃ kk : Nat, kk ≤ 0 ∧ k = .int .i64 kk) (fun k => 0 - (intOf k).toNat)
  case atStart => exact ⟨0, by omega, rfl⟩
  case round =>
    obtain ⟨kk, hk, rfl⟩ := hrel
    by_cases hkl : kk < 0
    · omega
    · obtain rfl : kk = 0 := by omega
      clear hgood Hl
      go_wp2_with fail
      go_quiet (fail)
      go_wp2
      all_goals go_ret
      all_goals refine ⟨?_, below_drewN ((Below.refl _ _).alloc (Nat.le_refl _) _) _⟩
      all_goals (simp [formB]; first | omega | (rw [Bool.eq_iff_iff]; simp; omega))

set_option maxHeartbeats 4000000 in
theorem right_tail2 (ins : List Int) (arg num rounds test lim : Int) (i n cap : Nat) (ao : Option Addr) (w : World) (B : Nat) (hB : B ≤ w.heap.size) (hx : SlA B 1 (RI .i64) w ao cap ins) (_hi : i < n) (_hn : n ≤ 16) (hs : i + 1 ≠ n)
    (hl : ins.length = 1) (hgood : ∀ k (hk : k < ins.length), 0 ≤ ins[k] ∧ ins[k] < i) :
    Calls Try.prog 18 #[.agg #[.int .i64 2, .slice ao ins.length cap, .int .i64 arg, .int .u32 num, .int .i64 rounds, .int .i64 test, .int .u32 lim], .int .i64 i, .int .i64 n] w fun e w' => e = .returned (.bool (formB ⟨2, ins, arg, num, rounds, test, lim⟩)) ∧ Below w.heap.size w w' := by
  have e2 : ((i : Int) == (n : Int) - 1) = false := by simp; omega
  obtain ⟨b, off, rfl, hb, hc⟩ := hx.addr (by omega)
  have hb2 : b < w.heap.size := by omega
  have hcell : ∀ k (hk : k < ins.length), w.cell? ⟨b, off + k, none⟩ = some (.int .i64 ins[k]) := by
    intro k hk
    obtain ⟨cs, _, h3, h4, _⟩ := hc k hk
    have := h3 0 (by omega)
    rw [h4] at this
    simpa using this
  clear hc hb hB
  have e3 : ((1 : Int) != (wantN 2 : Nat)) = false := by decide
  have Hl := Lib.hid hl
  rw [hl]
  clear hs hx hl
  go_enter Try.func18, Try.ntmps18
  go_wp2_with fail
  go_quiet (first | (go_at_call 17; exact Calls.quiet_of_same (within_t _ _ _ _ (by omega) (by omega))) | (go_at_call 22; exact Calls.quiet_of_same (inputs_any _ _)))
  go_wp2_with fail
  go_loop [38] (fun k => ∃ kk : Nat, kk ≤ 1 ∧ k = .int .i64 kk) (fun k => 1 - (intOf k).toNat)
  case atStart => exact ⟨0, by omega, rfl⟩
  case round =>
    obtain ⟨kk, hk, rfl⟩ := hrel
    by_cases hkl : kk < 1
    · obtain rfl : kk = 0 := by omega
      clear hkl hk
      have hkx : 0 < ins.length := by rw [Hl.out]; omega
      have hck := hcell 0 hkx
      rw [Nat.add_zero] at hck
      have hg := hgood 0 hkx
      generalize ins[0] = v at hck hg
      obtain ⟨hg1, hg2⟩ := hg
      clear hcell hgood
      go_wp2_with (go_at_call 17; refine (within_t _ _ _ _ (by omega) (by omega)).mono ?_; rintro e w' ⟨rfl, rfl⟩)
      go_round
      case rel => exact ⟨1, by omega, rfl⟩
      case measure => (simp [intOf]; try omega)
    · obtain rfl : kk = 1 := by omega
      clear hgood hcell Hl
      go_wp2_with fail
      go_quiet (fail)
      go_wp2
      all_goals go_ret
      all_goals refine ⟨?_, below_drewN ((Below.refl _ _).alloc (Nat.le_refl _) _) _⟩
      all_goals (simp [formB]; first | omega | (rw [Bool.eq_iff_iff]; simp; omega))

set_option maxHeartbeats 4000000 in
theorem right_tail3 (ins : List Int) (arg num rounds test lim : Int) (i n cap : Nat) (ao : Option Addr) (w : World) (B : Nat) (hB : B ≤ w.heap.size) (hx : SlA B 1 (RI .i64) w ao cap ins) (_hi : i < n) (_hn : n ≤ 16) (hs : i + 1 ≠ n)
    (hl : ins.length = 1) (hgood : ∀ k (hk : k < ins.length), 0 ≤ ins[k] ∧ ins[k] < i) :
    Calls Try.prog 18 #[.agg #[.int .i64 3, .slice ao ins.length cap, .int .i64 arg, .int .u32 num, .int .i64 rounds, .int .i64 test, .int .u32 lim], .int .i64 i, .int .i64 n] w fun e w' => e = .returned (.bool (formB ⟨3, ins, arg, num, rounds, test, lim⟩)) ∧ Below w.heap.size w w' := by
  have e2 : ((i : Int) == (n : Int) - 1) = false := by simp; omega
  obtain ⟨b, off, rfl, hb, hc⟩ := hx.addr (by omega)
  have hb2 : b < w.heap.size := by omega
  have hcell : ∀ k (hk : k < ins.length), w.cell? ⟨b, off + k, none⟩ = some (.int .i64 ins[k]) := by
    intro k hk
    obtain ⟨cs, _, h3, h4, _⟩ := hc k hk
    have := h3 0 (by omega)
    rw [h4] at this
    simpa using this
  clear hc hb hB
  have e3 : ((1 : Int) != (wantN 3 : Nat)) = false := by decide
  have Hl := Lib.hid hl
  rw [hl]
  clear hs hx hl
  go_enter Try.func18, Try.ntmps18
  go_wp2_with fail
  go_quiet (first | (go_at_call 17; exact Calls.quiet_of_same (within_t _ _ _ _ (by omega) (by omega))) | (go_at_call 22; exact Calls.quiet_of_same (inputs_any _ _)))
  go_wp2_with fail
  go_loop [38] (fun k => ∃ kk : Nat, kk ≤ 1 ∧ k = .int .i64 kk) (fun k => 1 - (intOf k).toNat)
  case atStart => exact ⟨0, by omega, rfl⟩
  case round =>
    obtain ⟨kk, hk, rfl⟩ := hrel
    by_cases hkl : kk < 1
    · obtain rfl : kk = 0 := by omega
      clear hkl hk
      have hkx : 0 < ins.length := by rw [Hl.out]; omega
      have hck := hcell 0 hkx
      rw [Nat.add_zero] at hck
      have hg := hgood 0 hkx
      generalize ins[0] = v at hck hg
      obtain ⟨hg1, hg2⟩ := hg
      clear hcell hgood
      go_wp2_with (go_at_call 17; refine (within_t _ _ _ _ (by omega) (by omega)).mono ?_; rintro e w' ⟨rfl, rfl⟩)
      go_round
      case rel => exact ⟨1, by omega, rfl⟩
      case measure => (simp [intOf]; try omega)
    · obtain rfl : kk = 1 := by omega
      clear hgood hcell Hl
      go_wp2_with fail
      go_quiet (fail)
      go_wp2
      all_goals go_ret
      all_goals refine ⟨?_, below_drewN ((Below.refl _ _).alloc (Nat.le_refl _) _) _⟩
      all_goals (simp [formB]; first | omega | (rw [Bool.eq_iff_iff]; simp; omega))

set_option maxHeartbeats 4000000 in
theorem right_tail4 (ins : List Int) (arg num rounds test lim : Int) (i n cap : Nat) (ao : Option Addr) (w : World) (B : Nat) (hB : B ≤ w.heap.size) (hx : SlA B 1 (RI .i64) w ao cap ins) (_hi : i < n) (_hn : n ≤ 16) (hs : i + 1 ≠ n)
    (hl : ins.length = 1) (hgood : ∀ k (hk : k < ins.length), 0 ≤ ins[k] ∧ ins[k] < i) :
    Calls Try.prog 18 #[.agg #[.int .i64 4, .slice ao ins.length cap, .int .i64 arg, .int .u32 num, .int .i64 rounds, .int .i64 test, .int .u32 lim], .int .i64 i, .int .i64 n] w fun e w' => e = .returned (.bool (formB ⟨4, ins, arg, num, rounds, test, lim⟩)) ∧ Below w.heap.size w w' := by
  have e2 : ((i : Int) == (n : Int) - 1) = false := by simp; omega
  obtain ⟨b, off, rfl, hb, hc⟩ := hx.addr (by omega)
  have hb2 : b < w.heap.size := by omega
  have hcell : ∀ k (hk : k < ins.length), w.cell? ⟨b, off + k, none⟩ = some (.int .i64 ins[k]) := by
    intro k hk
    obtain ⟨cs, _, h3, h4, _⟩ := hc k hk
    have := h3 0 (by omega)
    rw [h4] at this
    simpa using this
  clear hc hb hB
  have e3 : ((1 : Int) != (wantN 4 : Nat)) = false := by decide
  have Hl := Lib.hid hl
  rw [hl]
  clear hs hx hl
  go_enter Try.func18, Try.ntmps18
  go_wp2_with fail
  go_quiet (first | (go_at_call 17; exact Calls.quiet_of_same (within_t _ _ _ _ (by omega) (by omega))) | (go_at_call 22; exact Calls.quiet_of_same (inputs_any _ _)))
  go_wp2_with fail
  go_loop [38] (fun k => ∃ kk : Nat, kk ≤ 1 ∧ k = .int .i64 kk) (fun k => 1 - (intOf k).toNat)
  case atStart => exact ⟨0, by omega, rfl⟩
  case round =>
    obtain ⟨kk, hk, rfl⟩ := hrel
    by_cases hkl : kk < 1
    · obtain rfl : kk = 0 := by omega
      clear hkl hk
      have hkx : 0 < ins.length := by rw [Hl.out]; omega
      have hck := hcell 0 hkx
      rw [Nat.add_zero] at hck
      have hg := hgood 0 hkx
      generalize ins[0] = v at hck hg
      obtain ⟨hg1, hg2⟩ := hg
      clear hcell hgood
      go_wp2_with (go_at_call 17; refine (within_t _ _ _ _ (by omega) (by omega)).mono ?_; rintro e w' ⟨rfl, rfl⟩)
      go_round
      case rel => exact ⟨1, by omega, rfl⟩
      case measure => (simp [intOf]; try omega)
    · obtain rfl : kk = 1 := by omega
      clear hgood hcell Hl
      go_wp2_with fail
      go_quiet (fail)
      go_wp2
      all_goals go_ret
      all_goals refine ⟨?_, below_drewN ((Below.refl _ _).alloc (Nat.le_refl _) _) _⟩
      all_goals (simp [formB]; first | omega | (rw [Bool.eq_iff_iff]; simp; omega))

set_option maxHeartbeats 4000000 in
theorem right_tail5 (ins : List Int) (arg num rounds test lim : Int) (i n cap : Nat) (ao : Option Addr) (w : World) (B : Nat) (hB : B ≤ w.heap.size) (hx : SlA B 1 (RI .i64) w ao cap ins) (_hi : i < n) (_hn : n ≤ 16) (hs : i + 1 ≠ n)
    (hl : ins.length = 2) (hgood : ∀ k (hk : k < ins.length), 0 ≤ ins[k] ∧ ins[k] < i) :
    Calls Try.prog 18 #[.agg #[.int .i64 5, .slice ao ins.length cap, .int .i64 arg, .int .u32 num, .int .i64 rounds, .int .i64 test, .int .u32 lim], .int .i64 i, .int .i64 n] w fun e w' => e = .returned (.bool (formB ⟨5, ins, arg, num, rounds, test, lim⟩)) ∧ Below w.heap.size w w' := by
  have e2 : ((i : Int) == (n : Int) - 1) = false := by simp; omega
  obtain ⟨b, off, rfl, hb, hc⟩ := hx.addr (by omega)
  have hb2 : b < w.heap.size := by omega
  have hcell : ∀ k (hk : k < ins.length), w.cell? ⟨b, off + k, none⟩ = some (.int .i64 ins[k]) := by
    intro k hk
    obtain ⟨cs, _, h3, h4, _⟩ := hc k hk
    have := h3 0 (by omega)
    rw [h4] at this
    simpa using this
  clear hc hb hB
  have e3 : ((2 : Int) != (wantN 5 : Nat)) = false := by decide
  have Hl := Lib.hid hl
  rw [hl]
  clear hs hx hl
  go_enter Try.func18, Try.ntmps18
  go_wp2_with fail
  go_quiet (first | (go_at_call 17; exact Calls.quiet_of_same (within_t _ _ _ _ (by omega) (by omega))) | (go_at_call 22; exact Calls.quiet_of_same (inputs_any _ _)))
  go_wp2_with fail
  go_loop [38] (fun k => ∃ kk : Nat, kk ≤ 2 ∧ k = .int .i64 kk) (fun k => 2 - (intOf k).toNat)
  case atStart => exact ⟨0, by omega, rfl⟩
  case round =>
    obtain ⟨kk, hk, rfl⟩ := hrel
    by_cases hkl : kk < 2
    · have hkx : kk < ins.length := by rw [Hl.out]; exact hkl
      have hck := hcell kk hkx
      have hg := hgood kk hkx
      generalize ins[kk] = v at hck hg
      obtain ⟨hg1, hg2⟩ := hg
      clear hcell hgood
      go_wp2_with (go_at_call 17; refine (within_t _ _ _ _ (by omega) (by omega)).mono ?_; rintro e w' ⟨rfl, rfl⟩)
      go_round
      case rel => exact ⟨kk + 1, by omega, by go_num⟩
      case measure => (simp [intOf]; try omega)
    · obtain rfl : kk = 2 := by omega
      clear hgood hcell Hl
      go_wp2_with fail
      go_quiet (fail)
      go_wp2
      all_goals go_ret
      all_goals refine ⟨?_, below_drewN ((Below.refl _ _).alloc (Nat.le_refl _) _) _⟩
      all_goals (simp [formB]; first | omega | (rw [Bool.eq_iff_iff]; simp; omega))

set_option maxHeartbeats 4000000 in
theorem right_tail6 (ins : List Int) (arg num rounds test lim : Int) (i n cap : Nat) (ao : Option Addr) (w : World) (B : Nat) (hB : B ≤ w.heap.size) (hx : SlA B 1 (RI .i64) w ao cap ins) (_hi : i < n) (_hn : n ≤ 16) (hs : i + 1 ≠ n)
    (hl : ins.length = 2) (hgood : ∀ k (hk : k < ins.length), 0 ≤ ins[k] ∧ ins[k] < i) :
    Calls Try.prog 18 #[.agg #[.int .i64 6, .slice ao ins.length cap, .int .i64 arg, .int .u32 num, .int .i64 rounds, .int .i64 test, .int .u32 lim], .int .i64 i, .int .i64 n] w fun e w' => e = .returned (.bool (formB ⟨6, ins, arg, num, rounds, test, lim⟩)) ∧ Below w.heap.size w w' := by
  have e2 : ((i : Int) == (n : Int) - 1) = false := by simp; omega
  obtain ⟨b, off, rfl, hb, hc⟩ := hx.addr (by omega)
  have hb2 : b < w.heap.size := by omega
  have hcell : ∀ k (hk : k < ins.length), w.cell? ⟨b, off + k, none⟩ = some (.int .i64 ins[k]) := by
    intro k hk
    obtain ⟨cs, _, h3, h4, _⟩ := hc k hk
    have := h3 0 (by omega)
    rw [h4] at this
    simpa using this
  clear hc hb hB
  have e3 : ((2 : Int) != (wantN 6 : Nat)) = false := by decide
  have Hl := Lib.hid hl
  rw [hl]
  clear hs hx hl
  go_enter Try.func18, Try.ntmps18
  go_wp2_with fail
  go_quiet (first | (go_at_call 17; exact Calls.quiet_of_same (within_t _ _ _ _ (by omega) (by omega))) | (go_at_call 22; exact Calls.quiet_of_same (inputs_any _ _)))
  go_wp2_with fail
  go_loop [38] (fun k => ∃ kk : Nat, kk ≤ 2 ∧ k = .int .i64 kk) (fun k => 2 - (intOf k).toNat)
  case atStart => exact ⟨0, by omega, rfl⟩
  case round =>
    obtain ⟨kk, hk, rfl⟩ := hrel
    by_cases hkl : kk < 2
    · have hkx : kk < ins.length := by rw [Hl.out]; exact hkl
      have hck := hcell kk hkx
      have hg := hgood kk hkx
      generalize ins[kk] = v at hck hg
      obtain ⟨hg1, hg2⟩ := hg
      clear hcell hgood
      go_wp2_with (go_at_call 17; refine (within_t _ _ _ _ (by omega) (by omega)).mono ?_; rintro e w' ⟨rfl, rfl⟩)
      go_round
      case rel => exact ⟨kk + 1, by omega, by go_num⟩
      case measure => (simp [intOf]; try omega)
    · obtain rfl : kk = 2 := by omega
      clear hgood hcell Hl
      go_wp2_with fail
      go_quiet (fail)
      go_wp2
      all_goals go_ret
      all_goals refine ⟨?_, below_drewN ((Below.refl _ _).alloc (Nat.le_refl _) _) _⟩
      all_goals (simp [formB]; first | omega | (rw [Bool.eq_iff_iff]; simp; omega))

set_option maxHeartbeats 4000000 in
theorem right_tail7 (ins : List Int) (arg num rounds test lim : Int) (i n cap : Nat) (ao : Option Addr) (w : World) (B : Nat) (hB : B ≤ w.heap.size) (hx : SlA B 1 (RI .i64) w ao cap ins) (_hi : i < n) (_hn : n ≤ 16) (hs : i + 1 ≠ n)
    (hl : ins.length = 1) (hgood : ∀ k (hk : k < ins.length), 0 ≤ ins[k] ∧ ins[k] < i) :
    Calls Try.prog 18 #[.agg #[.int .i64 7, .slice ao ins.length cap, .int .i64 arg, .int .u32 num, .int .i64 rounds, .int .i64 test, .int .u32 lim], .int .i64 i, .int .i64 n] w fun e w' => e = .returned (.bool (formB ⟨7, ins, arg, num, rounds, test, lim⟩)) ∧ Below w.heap.size w w' := by
  have e2 : ((i : Int) == (n : Int) - 1) = false := by simp; omega
  obtain ⟨b, off, rfl, hb, hc⟩ := hx.addr (by omega)
  have hb2 : b < w.heap.size := by omega
  have hcell : ∀ k (hk : k < ins.length), w.cell? ⟨b, off + k, none⟩ = some (.int .i64 ins[k]) := by
    intro k hk
    obtain ⟨cs, _, h3, h4, _⟩ := hc k hk
    have := h3 0 (by omega)
    rw [h4] at this
    simpa using this
  clear hc hb hB
  have e3 : ((1 : Int) != (wantN 7 : Nat)) = false := by decide
  have Hl := Lib.hid hl
  rw [hl]
  clear hs hx hl
  go_enter Try.func18, Try.ntmps18
  go_wp2_with fail
  go_quiet (first | (go_at_call 17; exact Calls.quiet_of_same (within_t _ _ _ _ (by omega) (by omega))) | (go_at_call 22; exact Calls.quiet_of_same (inputs_any _ _)))
  go_wp2_with fail
  go_loop [38] (fun k => ∃ kk : Nat, kk ≤ 1 ∧ k = .int .i64 kk) (fun k => 1 - (intOf k).toNat)
  case atStart => exact ⟨0, by omega, rfl⟩
  case round =>
    obtain ⟨kk, hk, rfl⟩ := hrel
    by_cases hkl : kk < 1
    · obtain rfl : kk = 0 := by omega
      clear hkl hk
      have hkx : 0 < ins.length := by rw [Hl.out]; omega
      have hck := hcell 0 hkx
      rw [Nat.add_zero] at hck
      have hg := hgood 0 hkx
      generalize ins[0] = v at hck hg
      obtain ⟨hg1, hg2⟩ := hg
      clear hcell hgood
      go_wp2_with (go_at_call 17; refine (within_t _ _ _ _ (by omega) (by omega)).mono ?_; rintro e w' ⟨rfl, rfl⟩)
      go_round
      case rel => exact ⟨1, by omega, rfl⟩
      case measure => (simp [intOf]; try omega)
    · obtain rfl : kk = 1 := by omega
      clear hgood hcell Hl
      go_wp2_with fail
      go_quiet (fail)
      go_wp2
      all_goals go_ret
      all_goals refine ⟨?_, below_drewN ((Below.refl _ _).alloc (Nat.le_refl _) _) _⟩
      all_goals (simp [formB]; first | omega | (rw [Bool.eq_iff_iff]; simp; omega))

set_option maxHeartbeats 4000000 in
theorem right_tail8 (ins : List Int) (arg num rounds test lim : Int) (i n cap : Nat) (ao : Option Addr) (w : World) (B : Nat) (hB : B ≤ w.heap.size) (hx : SlA B 1 (RI .i64) w ao cap ins) (_hi : i < n) (_hn : n ≤ 16) (hs : i + 1 = n)
    (hl : ins.length = 1) (hgood : ∀ k (hk : k < ins.length), 0 ≤ ins[k] ∧ ins[k] < i) :
    Calls Try.prog 18 #[.agg #[.int .i64 8, .slice ao ins.length cap, .int .i64 arg, .int .u32 num, .int .i64 rounds, .int .i64 test, .int .u32 lim], .int .i64 i, .int .i64 n] w fun e w' => e = .returned (.bool (formB ⟨8, ins, arg, num, rounds, test, lim⟩)) ∧ Below w.heap.size w w' := by
  have e2 : ((i : Int) == (n : Int) - 1) = true := by simp; omega
  obtain ⟨b, off, rfl, hb, hc⟩ := hx.addr (by omega)
  have hb2 : b < w.heap.size := by omega
  have hcell : ∀ k (hk : k < ins.length), w.cell? ⟨b, off + k, none⟩ = some (.int .i64 ins[k]) := by
    intro k hk
    obtain ⟨cs, _, h3, h4, _⟩ := hc k hk
    have := h3 0 (by omega)
    rw [h4] at this
    simpa using this
  clear hc hb hB
  have e3 : ((1 : Int) != (wantN 8 : Nat)) = false := by decide
  have Hl := Lib.hid hl
  rw [hl]
  clear hs hx hl
  go_enter Try.func18, Try.ntmps18
  go_wp2_with fail
  go_quiet (first | (go_at_call 17; exact Calls.quiet_of_same (within_t _ _ _ _ (by omega) (by omega))) | (go_at_call 22; exact Calls.quiet_of_same (inputs_any _ _)))
  go_wp2_with fail
  go_loop [38] (fun k => ∃ kk : Nat, kk ≤ 1 ∧ k = .int .i64 kk) (fun k => 1 - (intOf k).toNat)
  case atStart => exact ⟨0, by omega, rfl⟩
  case round =>
    obtain ⟨kk, hk, rfl⟩ := hrel
    by_cases hkl : kk < 1
    · obtain rfl : kk = 0 := by omega
      clear hkl hk
      have hkx : 0 < ins.length := by rw [Hl.out]; omega
      have hck := hcell 0 hkx
      rw [Nat.add_zero] at hck
      have hg := hgood 0 hkx
      generalize ins[0] = v at hck hg
      obtain ⟨hg1, hg2⟩ := hg
      clear hcell hgood
      go_wp2_with (go_at_call 17; refine (within_t _ _ _ _ (by omega) (by omega)).mono ?_; rintro e w' ⟨rfl, rfl⟩)
      go_round
      case rel => exact ⟨1, by omega, rfl⟩
      case measure => (simp [intOf]; try omega)
    · obtain rfl : kk = 1 := by omega
      clear hgood hcell Hl
      go_wp2_with fail
      go_quiet (fail)
      go_wp2
      all_goals go_ret
      all_goals refine ⟨?_, below_drewN ((Below.refl _ _).alloc (Nat.le_refl _) _) _⟩
      all_goals (simp [formB]; first | omega | (rw [Bool.eq_iff_iff]; simp; omega))
end Go.Proofs.Ytmoengfpbgpnfaa
