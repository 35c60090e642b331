/- Model: ModelSums as its row asks for it. -/
import Derived.Test.YtbianedgogdeeaaNi
namespace Go.Proofs.Ytbianedgogdeeaa
open Go.RowKit Go.Maps Fold Go.Lib
set_option linter.unusedVariables false

theorem msums_row {w : World} (a0 : Option Addr) (len0 cap0 : Nat) (x0 : List (List TRecord)) (hx0 : RSl w.heap.size 1 (RSl w.heap.size 5 (RRecord w.heap.size)) w (Value.cells (.slice a0 len0 cap0)).toList x0) :
    Calls Try.prog 8 #[.slice a0 len0 cap0] w fun e w' => e = .returned (.bool true) ∧ Below w.heap.size w w' := by
  obtain ⟨rfl, h⟩ := rsl_open hx0
  exact msums_walk x0 a0 cap0 w h
end Go.Proofs.Ytbianedgogdeeaa
