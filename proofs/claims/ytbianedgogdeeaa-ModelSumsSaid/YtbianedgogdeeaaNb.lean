/- Model: ModelEpochs as its row asks for it. -/
import Derived.Test.YtbianedgogdeeaaMz
import Derived.Test.YtbianedgogdeeaaNa
namespace Go.Proofs.Ytbianedgogdeeaa
open Go.RowKit Go.Maps Fold Go.Lib
set_option linter.unusedVariables false

theorem mepochs_row {w : World} (a0 : Int) (wf0 : (Lit.int .i64 a0).wf = true) (a1 : Option Addr) (len1 cap1 : Nat) (x1 : List TRecord) (hx1 : RSl w.heap.size 5 (RRecord w.heap.size) w (Value.cells (.slice a1 len1 cap1)).toList x1) (a2 : Int) (wf2 : (Lit.int .i64 a2).wf = true) :
    Calls Try.prog 6 #[.int .i64 a0, .slice a1 len1 cap1, .int .i64 a2] w fun e w' => e = .returned (.bool true) ∧ Below w.heap.size w w' := by
  obtain ⟨rfl, h1⟩ := rsl_open hx1
  exact mepochs_walk a0 a2 x1 a1 cap1 w h1
end Go.Proofs.Ytbianedgogdeeaa
