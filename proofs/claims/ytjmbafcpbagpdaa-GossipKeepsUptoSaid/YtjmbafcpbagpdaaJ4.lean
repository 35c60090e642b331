/- Gossip: is there such a worker; the copies of rows. -/
import Derived.Test.YtjmbafcpbagpdaaTyGraph
namespace Go.Proofs.Ytjmbafcpbagpdaa
open Go.RowKit
set_option linter.unusedVariables false
set_option linter.unusedSimpArgs false

theorem there_nil (k : Int) (w : World) : Calls Try.prog 25 #[.pointer none, .int .i64 k] w fun e w' => e = .returned (.bool false) ∧ w' = w := by
  go_enter Try.func25, Try.ntmps25
  go_wp2_with fail
  go_ret
  exact ⟨rfl, rfl⟩
theorem there_any (k : Int) (gb vb n vc : Nat) (w : World) (c2 : w.cell? ⟨gb, 2, none⟩ = some (.slice (some ⟨vb, 0, none⟩) n vc)) :
    Calls Try.prog 25 #[.pointer (some ⟨gb, 0, none⟩), .int .i64 k] w fun e w' => e = .returned (.bool (decide (0 ≤ k ∧ k < n))) ∧ w' = w := by
  by_cases h1 : 0 ≤ k
  · have d1 : decide ((0 : Int) ≤ k) = true := by simpa using h1
    by_cases h2 : k < n
    · have d2 : decide (k < (n : Int)) = true := by simpa using h2
      have hR : decide (0 ≤ k ∧ k < n) = true := by simp [h1, h2]
      rw [hR]
      clear h1 h2 hR
      go_enter Try.func25, Try.ntmps25
      go_wp2_with fail
      go_ret
      exact ⟨rfl, rfl⟩
    · have d2 : decide (k < (n : Int)) = false := by simpa using h2
      have hR : decide (0 ≤ k ∧ k < n) = false := by simp [h2]
      rw [hR]
      clear h1 h2 hR
      go_enter Try.func25, Try.ntmps25
      go_wp2_with fail
      go_ret
      exact ⟨rfl, rfl⟩
  · have d1 : decide ((0 : Int) ≤ k) = false := by simpa using h1
    have hR : decide (0 ≤ k ∧ k < n) = false := by simp [h1]
    rw [hR]
    clear h1 hR
    go_enter Try.func25, Try.ntmps25
    go_wp2_with fail
    go_ret
    exact ⟨rfl, rfl⟩
/-- The value of a cell of a gossip's table of ways. -/
theorem wait_walk (k j gb : Nat) (hk : k < 8) (hj : j < 8) (w : World) (ao : Option Addr) (n cap : Nat) (hT : ∀ i : Int, (i = k ∨ i = j) → Calls Try.prog 25 #[.pointer (some ⟨gb, 0, none⟩), .int .i64 i] w fun e w' => e = .returned (.bool true) ∧ w' = w) (c : w.cell? ⟨gb, 3 + k * 8 + j, none⟩ = some (.slice ao n cap)) :
    Calls Try.prog 14 #[.pointer (some ⟨gb, 0, none⟩), .int .i64 k, .int .i64 j] w fun e w' => e = .returned (.int .i64 n) ∧ w' = w := by
  have h1 := hT k (.inl rfl)
  have h2 := hT j (.inr rfl)
  clear hT
  replace h1 := Lib.hid h1
  replace h2 := Lib.hid h2
  go_enter Try.func14, Try.ntmps14
  go_wp2_with fail
  refine h1.out.mono ?_
  rintro e w' ⟨rfl, rfl⟩
  dsimp only
  go_wp2_with fail
  refine h2.out.mono ?_
  rintro e w2 ⟨rfl, rfl⟩
  dsimp only
  go_wp2_with fail
  go_ret
  exact ⟨rfl, rfl⟩
end Go.Proofs.Ytjmbafcpbagpdaa
