/- Model: ModelForms as its row asks for it. -/
import Derived.Test.YtbianedgogdeeaaNm
import Derived.Test.YtbianedgogdeeaaGsz
import Derived.Test.YtbianedgogdeeaaSsz
namespace Go.Proofs.Ytbianedgogdeeaa
open Go.RowKit Go.Maps Fold Go.Lib
set_option linter.unusedVariables false

theorem rsl_op {α : Type} {B sz : Nat} {E : World → List Value → α → Prop} {w : World} {a : Option Addr} {len cap : Nat} {xs : List α} (h : RSl B sz E w (Value.cells (.slice a len cap)).toList xs) : len = xs.length ∧ SlA B sz E w a cap xs := by
  obtain ⟨ao, c, h1, h2⟩ := h
  simp only [Value.cells, List.cons.injEq, Value.slice.injEq, and_true] at h1
  obtain ⟨rfl, rfl, rfl⟩ := h1
  exact ⟨rfl, h2⟩
theorem mforms_row {w : World} (cs0 : Array Value) (x0 : TGraph) (hx0 : RGraph w.heap.size w (Value.cells (.agg cs0)).toList x0) (hz0 : x0.fOps.length * 72 ≤ reachBytes) (hzi0 : ∀ o ∈ x0.fOps, o.fIn.length * 8 ≤ reachBytes)
    (cs1 : Array Value) (x1 : TState) (hx1 : RState w.heap.size w (Value.cells (.agg cs1)).toList x1) (hz1 : x1.fFolds.length * 24 ≤ reachBytes) (hzi1 : ∀ l ∈ x1.fFolds, l.length * 24 ≤ reachBytes)
    (a2 : Option Addr) (len2 cap2 : Nat) (x2 : List TPair) (hx2 : RSl w.heap.size 2 (RPair w.heap.size) w (Value.cells (.slice a2 len2 cap2)).toList x2) (z2 : cap2 * 24 ≤ reachBytes) :
    Calls Try.prog 4 #[.agg cs0, .agg cs1, .slice a2 len2 cap2] w fun e w' => e = .returned (.bool true) ∧ Below w.heap.size w w' := by
  obtain ⟨ga, gcap, rfl, hg⟩ := graph_agg hx0
  obtain ⟨sa, scap, rfl, hs⟩ := state_agg hx1
  obtain ⟨rfl, h2⟩ := rsl_op hx2
  have hr : reachBytes = 140737488351232 := rfl
  have hc := h2.1
  have hp := pra_of_in h2
  have h := mforms_walk x0.fOps (stOf x1) (x2.map prOf) ga sa a2 gcap scap cap2 w hg (sta_of_in hs).1 hp.1 (by omega) (by rw [List.length_map]; omega)
  unfold stOf at h
  rwa [List.length_map, List.length_map] at h
end Go.Proofs.Ytbianedgogdeeaa
