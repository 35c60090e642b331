/- Graph: the reference's zero, form, want, Check. -/
import Derived.Test.YtmoengfpbgpnfaaGcheck
namespace Go.Proofs.Ytmoengfpbgpnfaa
open Go.RowKit
set_option linter.unusedVariables false

def zB (num rounds test lim : Int) : Bool := decide (num = 0 ∧ rounds = 0 ∧ test = 0 ∧ lim = 0)

set_option maxHeartbeats 1000000 in
theorem zero_any (kind arg num rounds test lim : Int) (len cap : Nat) (ao : Option Addr) (w : World) :
    Calls Try.prog 23 #[.agg #[.int .i64 kind, .slice ao len cap, .int .i64 arg, .int .u32 num, .int .i64 rounds, .int .i64 test, .int .u32 lim]] w fun e w' => e = .returned (.bool (zB num rounds test lim)) ∧ Below w.heap.size w w' := by
  go_enter Try.func23, Try.ntmps23
  go_wp2
  all_goals go_ret
  all_goals refine ⟨?_, (Below.refl _ _).alloc (Nat.le_refl _) _⟩
  all_goals (simp [zB]; first | omega | (rw [Bool.eq_iff_iff]; simp; omega))

set_option maxHeartbeats 400000 in
theorem want_any (k : Int) (w : World) :
    Calls Try.prog 20 #[.int .i64 k] w fun e w' => e = .returned (.int .i64 (wantN k : Nat)) ∧ w' = w := by
  by_cases h1 : k = 1
  · subst h1
    go_enter Try.func20, Try.ntmps20
    go_wp2
    go_ret
    exact ⟨rfl, rfl⟩
  by_cases h2 : k = 5
  · subst h2
    go_enter Try.func20, Try.ntmps20
    go_wp2
    go_ret
    exact ⟨rfl, rfl⟩
  by_cases h3 : k = 6
  · subst h3
    go_enter Try.func20, Try.ntmps20
    go_wp2
    go_ret
    exact ⟨rfl, rfl⟩
  have hw : wantN k = 1 := by simp [wantN, h1, h2, h3]
  rw [hw]
  have e1 : (k == 1) = false := by simpa using h1
  have e2 : (k == 5) = false := by simpa using h2
  have e3 : (k == 6) = false := by simpa using h3
  clear h1 h2 h3 hw
  go_enter Try.func20, Try.ntmps20
  go_wp2
  go_ret
  exact ⟨rfl, rfl⟩

set_option maxHeartbeats 2000000 in
theorem form0 (kind arg num rounds test lim : Int) (ins : List Int) (len cap : Nat) (ao : Option Addr) (w : World) (hk : kind < 1 ∨ 8 < kind) :
    Calls Try.prog 19 #[.agg #[.int .i64 kind, .slice ao len cap, .int .i64 arg, .int .u32 num, .int .i64 rounds, .int .i64 test, .int .u32 lim]] w fun e w' => e = .returned (.bool (formB ⟨kind, ins, arg, num, rounds, test, lim⟩)) ∧ Below w.heap.size w w' := by
  have h1 : (kind == 1) = false := by simp; omega
  have h2 : (kind == 2) = false := by simp; omega
  have h3 : (kind == 3) = false := by simp; omega
  have h4 : (kind == 4) = false := by simp; omega
  have h5 : (kind == 5) = false := by simp; omega
  have h6 : (kind == 6) = false := by simp; omega
  have h7 : (kind == 7) = false := by simp; omega
  have h8 : (kind == 8) = false := by simp; omega
  have hf : formB ⟨kind, ins, arg, num, rounds, test, lim⟩ = false := by
    unfold formB
    simp only
    rw [if_neg (by omega), if_neg (by omega), if_neg (by omega), if_neg (by omega), if_neg (by omega), if_neg (by omega)]
  rw [hf]
  clear hk hf
  go_enter Try.func19, Try.ntmps19
  go_wp2
  go_ret
  exact ⟨rfl, (Below.refl _ _).alloc (Nat.le_refl _) _⟩

set_option maxHeartbeats 2000000 in
theorem form1 (arg num rounds test lim : Int) (ins : List Int) (len cap : Nat) (ao : Option Addr) (w : World) :
    Calls Try.prog 19 #[.agg #[.int .i64 1, .slice ao len cap, .int .i64 arg, .int .u32 num, .int .i64 rounds, .int .i64 test, .int .u32 lim]] w fun e w' => e = .returned (.bool (formB ⟨1, ins, arg, num, rounds, test, lim⟩)) ∧ Below w.heap.size w w' := by
  go_enter Try.func19, Try.ntmps19
  go_wp2_with (go_at_call 23; refine (zero_any _ _ _ _ _ _ _ _ _ _).mono ?_; rintro e w' ⟨rfl, hb⟩)
  all_goals go_ret
  all_goals refine ⟨?_, by first | exact (Below.refl _ _).alloc (Nat.le_refl _) _ | exact ((Below.refl _ _).alloc (Nat.le_refl _) _).trans (hb.mono (by simp))⟩
  all_goals (simp [formB, zB]; first | omega | (rw [Bool.eq_iff_iff]; simp; omega))

set_option maxHeartbeats 2000000 in
theorem form2 (arg num rounds test lim : Int) (ins : List Int) (len cap : Nat) (ao : Option Addr) (w : World) :
    Calls Try.prog 19 #[.agg #[.int .i64 2, .slice ao len cap, .int .i64 arg, .int .u32 num, .int .i64 rounds, .int .i64 test, .int .u32 lim]] w fun e w' => e = .returned (.bool (formB ⟨2, ins, arg, num, rounds, test, lim⟩)) ∧ Below w.heap.size w w' := by
  go_enter Try.func19, Try.ntmps19
  go_wp2_with (go_at_call 23; refine (zero_any _ _ _ _ _ _ _ _ _ _).mono ?_; rintro e w' ⟨rfl, hb⟩)
  all_goals go_ret
  all_goals refine ⟨?_, by first | exact (Below.refl _ _).alloc (Nat.le_refl _) _ | exact ((Below.refl _ _).alloc (Nat.le_refl _) _).trans (hb.mono (by simp))⟩
  all_goals (simp [formB, zB]; first | omega | (rw [Bool.eq_iff_iff]; simp; omega))

set_option maxHeartbeats 2000000 in
theorem form3 (arg num rounds test lim : Int) (ins : List Int) (len cap : Nat) (ao : Option Addr) (w : World) :
    Calls Try.prog 19 #[.agg #[.int .i64 3, .slice ao len cap, .int .i64 arg, .int .u32 num, .int .i64 rounds, .int .i64 test, .int .u32 lim]] w fun e w' => e = .returned (.bool (formB ⟨3, ins, arg, num, rounds, test, lim⟩)) ∧ Below w.heap.size w w' := by
  go_enter Try.func19, Try.ntmps19
  go_wp2_with (go_at_call 23; refine (zero_any _ _ _ _ _ _ _ _ _ _).mono ?_; rintro e w' ⟨rfl, hb⟩)
  all_goals go_ret
  all_goals refine ⟨?_, by first | exact (Below.refl _ _).alloc (Nat.le_refl _) _ | exact ((Below.refl _ _).alloc (Nat.le_refl _) _).trans (hb.mono (by simp))⟩
  all_goals (simp [formB, zB]; first | omega | (rw [Bool.eq_iff_iff]; simp; omega))

set_option maxHeartbeats 2000000 in
theorem form4 (arg num rounds test lim : Int) (ins : List Int) (len cap : Nat) (ao : Option Addr) (w : World) :
    Calls Try.prog 19 #[.agg #[.int .i64 4, .slice ao len cap, .int .i64 arg, .int .u32 num, .int .i64 rounds, .int .i64 test, .int .u32 lim]] w fun e w' => e = .returned (.bool (formB ⟨4, ins, arg, num, rounds, test, lim⟩)) ∧ Below w.heap.size w w' := by
  go_enter Try.func19, Try.ntmps19
  go_wp2_with (go_at_call 23; refine (zero_any _ _ _ _ _ _ _ _ _ _).mono ?_; rintro e w' ⟨rfl, hb⟩)
  all_goals go_ret
  all_goals refine ⟨?_, by first | exact (Below.refl _ _).alloc (Nat.le_refl _) _ | exact ((Below.refl _ _).alloc (Nat.le_refl _) _).trans (hb.mono (by simp))⟩
  all_goals (simp [formB, zB]; first | omega | (rw [Bool.eq_iff_iff]; simp; omega))

set_option maxHeartbeats 2000000 in
theorem form5 (arg num rounds test lim : Int) (ins : List Int) (len cap : Nat) (ao : Option Addr) (w : World) :
    Calls Try.prog 19 #[.agg #[.int .i64 5, .slice ao len cap, .int .i64 arg, .int .u32 num, .int .i64 rounds, .int .i64 test, .int .u32 lim]] w fun e w' => e = .returned (.bool (formB ⟨5, ins, arg, num, rounds, test, lim⟩)) ∧ Below w.heap.size w w' := by
  go_enter Try.func19, Try.ntmps19
  go_wp2_with (go_at_call 23; refine (zero_any _ _ _ _ _ _ _ _ _ _).mono ?_; rintro e w' ⟨rfl, hb⟩)
  all_goals go_ret
  all_goals refine ⟨?_, by first | exact (Below.refl _ _).alloc (Nat.le_refl _) _ | exact ((Below.refl _ _).alloc (Nat.le_refl _) _).trans (hb.mono (by simp))⟩
  all_goals (simp [formB, zB]; first | omega | (rw [Bool.eq_iff_iff]; simp; omega))

set_option maxHeartbeats 2000000 in
theorem form6 (arg num rounds test lim : Int) (ins : List Int) (len cap : Nat) (ao : Option Addr) (w : World) :
    Calls Try.prog 19 #[.agg #[.int .i64 6, .slice ao len cap, .int .i64 arg, .int .u32 num, .int .i64 rounds, .int .i64 test, .int .u32 lim]] w fun e w' => e = .returned (.bool (formB ⟨6, ins, arg, num, rounds, test, lim⟩)) ∧ Below w.heap.size w w' := by
  go_enter Try.func19, Try.ntmps19
  go_wp2_with (go_at_call 23; refine (zero_any _ _ _ _ _ _ _ _ _ _).mono ?_; rintro e w' ⟨rfl, hb⟩)
  all_goals go_ret
  all_goals refine ⟨?_, by first | exact (Below.refl _ _).alloc (Nat.le_refl _) _ | exact ((Below.refl _ _).alloc (Nat.le_refl _) _).trans (hb.mono (by simp))⟩
  all_goals (simp [formB, zB]; first | omega | (rw [Bool.eq_iff_iff]; simp; omega))

set_option maxHeartbeats 2000000 in
theorem form7 (arg num rounds test lim : Int) (ins : List Int) (len cap : Nat) (ao : Option Addr) (w : World) :
    Calls Try.prog 19 #[.agg #[.int .i64 7, .slice ao len cap, .int .i64 arg, .int .u32 num, .int .i64 rounds, .int .i64 test, .int .u32 lim]] w fun e w' => e = .returned (.bool (formB ⟨7, ins, arg, num, rounds, test, lim⟩)) ∧ Below w.heap.size w w' := by
  go_enter Try.func19, Try.ntmps19
  go_wp2_with (go_at_call 23; refine (zero_any _ _ _ _ _ _ _ _ _ _).mono ?_; rintro e w' ⟨rfl, hb⟩)
  all_goals go_ret
  all_goals refine ⟨?_, by first | exact (Below.refl _ _).alloc (Nat.le_refl _) _ | exact ((Below.refl _ _).alloc (Nat.le_refl _) _).trans (hb.mono (by simp))⟩
  all_goals (simp [formB]; first | omega | (rw [Bool.eq_iff_iff]; simp; omega))

set_option maxHeartbeats 2000000 in
theorem form8 (arg num rounds test lim : Int) (ins : List Int) (len cap : Nat) (ao : Option Addr) (w : World) :
    Calls Try.prog 19 #[.agg #[.int .i64 8, .slice ao len cap, .int .i64 arg, .int .u32 num, .int .i64 rounds, .int .i64 test, .int .u32 lim]] w fun e w' => e = .returned (.bool (formB ⟨8, ins, arg, num, rounds, test, lim⟩)) ∧ Below w.heap.size w w' := by
  go_enter Try.func19, Try.ntmps19
  go_wp2_with (go_at_call 23; refine (zero_any _ _ _ _ _ _ _ _ _ _).mono ?_; rintro e w' ⟨rfl, hb⟩)
  all_goals go_ret
  all_goals refine ⟨?_, by first | exact (Below.refl _ _).alloc (Nat.le_refl _) _ | exact ((Below.refl _ _).alloc (Nat.le_refl _) _).trans (hb.mono (by simp))⟩
  all_goals (simp [formB, zB]; first | omega | (rw [Bool.eq_iff_iff]; simp; omega))

theorem form_any (x : TOp) (len cap : Nat) (ao : Option Addr) (w : World) :
    Calls Try.prog 19 #[.agg #[.int .i64 x.fKind, .slice ao len cap, .int .i64 x.fArg, .int .u32 x.fNum, .int .i64 x.fRounds, .int .i64 x.fTest, .int .u32 x.fLim]] w fun e w' => e = .returned (.bool (formB x)) ∧ Below w.heap.size w w' := by
  obtain ⟨kind, ins, arg, num, rounds, test, lim⟩ := x
  simp only
  by_cases hk : kind < 1 ∨ 8 < kind
  · exact form0 kind arg num rounds test lim ins len cap ao w hk
  · have hcase : kind = 1 ∨ kind = 2 ∨ kind = 3 ∨ kind = 4 ∨ kind = 5 ∨ kind = 6 ∨ kind = 7 ∨ kind = 8 := by omega
    rcases hcase with rfl | rfl | rfl | rfl | rfl | rfl | rfl | rfl
    · exact form1 arg num rounds test lim ins len cap ao w
    · exact form2 arg num rounds test lim ins len cap ao w
    · exact form3 arg num rounds test lim ins len cap ao w
    · exact form4 arg num rounds test lim ins len cap ao w
    · exact form5 arg num rounds test lim ins len cap ao w
    · exact form6 arg num rounds test lim ins len cap ao w
    · exact form7 arg num rounds test lim ins len cap ao w
    · exact form8 arg num rounds test lim ins len cap ao w
end Go.Proofs.Ytmoengfpbgpnfaa
