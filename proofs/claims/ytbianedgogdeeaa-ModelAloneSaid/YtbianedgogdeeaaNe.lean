/- Model: ModelAlone as its row asks for it. -/
import Derived.Test.YtbianedgogdeeaaMz
import Derived.Test.YtbianedgogdeeaaNd
namespace Go.Proofs.Ytbianedgogdeeaa
open Go.RowKit Go.Maps Fold Go.Lib
set_option linter.unusedVariables false

theorem malone_row {w : World} (cs0 : Array Value) (x0 : TGraph) (hx0 : RGraph w.heap.size w (Value.cells (.agg cs0)).toList x0) (a1 : Option Addr) (len1 cap1 : Nat) (x1 : List TRecord) (hx1 : RSl w.heap.size 5 (RRecord w.heap.size) w (Value.cells (.slice a1 len1 cap1)).toList x1) :
    Calls Try.prog 9 #[.agg cs0, .slice a1 len1 cap1] w fun e w' => e = .returned (.bool true) ∧ Below w.heap.size w w' := by
  obtain ⟨ga, gcap, rfl, hg⟩ := graph_agg hx0
  obtain ⟨rfl, h1⟩ := rsl_open hx1
  exact malone_walk x0.fOps x1 ga a1 gcap cap1 w hg h1
end Go.Proofs.Ytbianedgogdeeaa
