/- FoldTables, FoldAlls: the walks. -/
import Derived.Test.YtbohdlodaafinaaFall
import Derived.Test.YtbohdlodaafinaaTyFold
namespace Go.Proofs.Ytbohdlodaafinaa
open Go.RowKit Fold
set_option linter.unusedVariables false

theorem ur_two (w : World) : UR (w.alloc (.cells #[.int .u32 4294967295, .int .u32 2] 22)) (w.heap.size + 1) (some ⟨w.heap.size, 0, none⟩) 2 [4294967295, 2] := by
  have hb := Blk.new w #[.int .u32 4294967295, .int .u32 2] 22
  refine ⟨by decide, by unfold maxLen; omega, by simp, fun _ => ⟨_, _, rfl, by omega, fun k hk => ?_⟩, by decide⟩
  match k, hk with
  | 0, _ => exact hb.cellAt rfl
  | 1, _ => exact hb.cellAt rfl

set_option maxHeartbeats 1000000 in
theorem known_any (w : World) :
    Calls Try.prog 7 #[] w fun e w' => e = .returned (.bool true) ∧ Below w.heap.size w w' := by
  have g1 : allN 0 [4294967295, 2] = 1 := by decide
  have g2 : allB 0 [4294967295, 2] = true := by decide
  have g3 : mapN 3 33 8 = 4 := by decide
  have g4 : testB 3 0 0 = false := by decide
  have g5 : startN 1 9 = 1 := by decide
  go_enter Try.func7, Try.ntmps7
  go_wp2_with fail
  refine (all_any 0 [4294967295, 2] _ 2 _ _ (ur_two w)).mono ?_
  rintro e w1 ⟨rfl, rfl⟩
  rw [g1, g2]
  go_wp2_with fail
  refine (map_any 3 33 8 _ (by omega) (by omega)).mono ?_
  rintro e w1 ⟨rfl, rfl⟩
  rw [g3]
  go_wp2_with fail
  refine (test_any 3 0 0 _ (by omega) (by omega)).mono ?_
  rintro e w1 ⟨rfl, rfl⟩
  rw [g4]
  go_wp2_with fail
  refine (start_any 1 9 _).mono ?_
  rintro e w1 ⟨rfl, rfl⟩
  rw [g5]
  go_wp2_with fail
  go_ret
  exact ⟨rfl, (Below.refl _ _).alloc (Nat.le_refl _) _⟩

set_option maxHeartbeats 1000000 in
theorem alls_walk (w : Int) (l : List Nat) (ao : Option Addr) (cap : Nat) (W : World) (h : UR W W.heap.size ao cap l) :
    Calls Try.prog 4 #[.int .i64 w, .slice ao l.length cap] W fun e W' => e = .returned (.bool true) ∧ Below W.heap.size W W' := by
  go_enter Try.func4, Try.ntmps4
  go_wp2_with fail
  refine (all_any w l ao cap _ _ h).mono ?_
  rintro e w1 ⟨rfl, rfl⟩
  go_wp2_with fail
  refine (rall_any w l ao cap _ _ h).mono ?_
  rintro e w1 ⟨rfl, rfl⟩
  generalize allN w l = r1
  generalize allB w l = r2
  go_wp2_with fail
  refine (known_any _).mono ?_
  rintro e w1 ⟨rfl, hb⟩
  go_wp2_with fail
  go_ret
  exact ⟨by simp, hb⟩

set_option maxHeartbeats 4000000 in
theorem tables_walk (w : Int) (a b : Nat) (W : World) (ha : a < 4294967296) (hb : b < 4294967296) :
    Calls Try.prog 3 #[.int .i64 w, .agg #[.int .u32 a, .int .u32 b]] W fun e W' => e = .returned (.bool true) ∧ Below W.heap.size W W' := by
  have hB := Blk.new W #[.int .u32 a, .int .u32 b] 24
  have hs : W.heap.size < (W.alloc (.cells #[.int .u32 a, .int .u32 b] 24)).heap.size := by simp
  have hbel := (Below.refl W.heap.size W).alloc (Nat.le_refl _) (.cells #[.int .u32 a, .int .u32 b] 24)
  go_enter Try.func3, Try.ntmps3
  go_wp2_with fail
  obtain ⟨w1, hw1⟩ : ∃ w1, w1 = W.alloc (.cells #[.int .u32 a, .int .u32 b] 24) := ⟨_, rfl⟩
  rw [← hw1] at hB hs hbel ⊢
  clear hw1
  have q0 := Wd.cell (hB.cellAt (i := 0) rfl) hs
  have q1 := Wd.cell (hB.cellAt (i := 1) rfl) hs
  clear hB hs
  refine wp_region_below (by kernel_rfl) (by kernel_rfl) ?_
  generalize hs1 : startN w a = s1
  generalize hj1 : joinN w a b = j1
  generalize hm1 : mapN w a b = m1
  generalize ht1 : testB w a b = t1
  repeat (go_big_quiet_step (first
    | (go_at_call 7; exact Calls.quiet_below (known_any _))
    | (go_at_call 8; exact Calls.quiet_below_same ((start_any w a _).mono fun _ _ ⟨h1, h2⟩ => ⟨h1, h2.symm⟩))
    | (go_at_call 9; exact Calls.quiet_below_same ((rstart_any w a _).mono fun _ _ ⟨h1, h2⟩ => ⟨h1, h2.symm⟩))
    | (go_at_call 10; exact Calls.quiet_below_same ((join_any w a b _ ha hb).mono fun _ _ ⟨h1, h2⟩ => ⟨h1, h2.symm⟩))
    | (go_at_call 11; exact Calls.quiet_below_same ((rjoin_any w a b _ ha hb).mono fun _ _ ⟨h1, h2⟩ => ⟨h1, h2.symm⟩))
    | (go_at_call 12; exact Calls.quiet_below_same ((map_any w a b _ ha hb).mono fun _ _ ⟨h1, h2⟩ => ⟨h1, h2.symm⟩))
    | (go_at_call 13; exact Calls.quiet_below_same ((rmap_any w a b _ ha hb).mono fun _ _ ⟨h1, h2⟩ => ⟨h1, h2.symm⟩))
    | (go_at_call 14; exact Calls.quiet_below_same ((test_any w a b _ ha hb).mono fun _ _ ⟨h1, h2⟩ => ⟨h1, h2.symm⟩))
    | (go_at_call 15; exact Calls.quiet_below_same ((rtest_any w a b _ ha hb).mono fun _ _ ⟨h1, h2⟩ => ⟨h1, h2.symm⟩))))
  refine wpQuiet_nil ?_
  rintro _ ⟨u, rfl⟩
  go_wp2_with fail
  go_ret
  exact ⟨by simp, hbel.trans (u.h.mono hbel.size)⟩

/-- A slice of uint32 as an argument. -/
theorem ur_arg {w : World} {ao : Option Addr} {len cap : Nat} {xs : List Int} (hx : RSl w.heap.size 1 (RI .u32) w (Value.cells (.slice ao len cap)).toList xs) : ∃ l : List Nat, len = l.length ∧ UR w w.heap.size ao cap l := by
  obtain ⟨ao', cap', h1, h2⟩ := hx
  simp only [Value.cells, List.cons.injEq, Value.slice.injEq, and_true] at h1
  obtain ⟨rfl, rfl, rfl⟩ := h1
  exact ⟨xs.map Int.toNat, by simp, UR.of_sl h2⟩

theorem alls_row {w : World} (a0 : Int) (w0 : (Lit.int .i64 a0).wf = true) (ao : Option Addr) (len cap : Nat) (xs : List Int) (hx : RSl w.heap.size 1 (RI .u32) w (Value.cells (.slice ao len cap)).toList xs) :
    Calls Try.prog 4 #[.int .i64 a0, .slice ao len cap] w fun e w' => e = .returned (.bool true) ∧ Below w.heap.size w w' := by
  obtain ⟨l, rfl, h⟩ := ur_arg hx
  exact alls_walk a0 l ao cap w h

theorem tables_row {w : World} (a0 : Int) (w0 : (Lit.int .i64 a0).wf = true) (cs : Array Value) (x : TMillracelaw10Two) (hx : RMillracelaw10Two w.heap.size w (Value.cells (.agg cs)).toList x) :
    Calls Try.prog 3 #[.int .i64 a0, .agg cs] w fun e w' => e = .returned (.bool true) ∧ Below w.heap.size w w' := by
  obtain ⟨h1, h2, h3⟩ := hx
  obtain ⟨a, b⟩ := x
  simp only at h1 h2 h3
  have b1 := bounds_u32 h2
  have b2 := bounds_u32 h3
  obtain ⟨a, rfl⟩ := Int.eq_ofNat_of_zero_le b1.1
  obtain ⟨b, rfl⟩ := Int.eq_ofNat_of_zero_le b2.1
  obtain rfl : cs = #[.int .u32 a, .int .u32 b] := by cases cs; simpa [Value.cells] using h1
  exact tables_walk a0 a b w (by omega) (by omega)
end Go.Proofs.Ytbohdlodaafinaa
