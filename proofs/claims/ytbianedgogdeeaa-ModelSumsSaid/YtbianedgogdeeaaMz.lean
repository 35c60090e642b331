/- Model: ModelOrders as its row asks for it. -/
import Derived.Test.YtbianedgogdeeaaMy
namespace Go.Proofs.Ytbianedgogdeeaa
open Go.RowKit Go.Maps Fold Go.Lib
set_option linter.unusedVariables false

theorem rsl_open {α : Type} {B sz : Nat} {E : World → List Value → α → Prop} {w : World} {a : Option Addr} {len cap : Nat} {xs : List α} (h : RSl B sz E w (Value.cells (.slice a len cap)).toList xs) : len = xs.length ∧ SlA B sz E w a cap xs := by
  obtain ⟨ao, c, h1, h2⟩ := h
  simp only [Value.cells, List.cons.injEq, Value.slice.injEq, and_true] at h1
  obtain ⟨rfl, rfl, rfl⟩ := h1
  exact ⟨rfl, h2⟩
theorem morders_row {w : World} (cs0 : Array Value) (x0 : TGraph) (hx0 : RGraph w.heap.size w (Value.cells (.agg cs0)).toList x0) (a1 : Option Addr) (len1 cap1 : Nat) (x1 : List TRecord) (hx1 : RSl w.heap.size 5 (RRecord w.heap.size) w (Value.cells (.slice a1 len1 cap1)).toList x1) (z1 : cap1 * 48 ≤ reachBytes)
    (a2 : Option Addr) (len2 cap2 : Nat) (x2 : List Int) (hx2 : RSl w.heap.size 1 (RI .i64) w (Value.cells (.slice a2 len2 cap2)).toList x2) (z2 : cap2 * 8 ≤ reachBytes) :
    Calls Try.prog 5 #[.agg cs0, .slice a1 len1 cap1, .slice a2 len2 cap2] w fun e w' => e = .returned (.bool true) ∧ Below w.heap.size w w' := by
  obtain ⟨ga, gcap, rfl, hg⟩ := graph_agg hx0
  obtain ⟨rfl, h1⟩ := rsl_open hx1
  obtain ⟨rfl, h2⟩ := rsl_open hx2
  have hl := h1.1
  have hr : reachBytes = 140737488351232 := rfl
  exact morders_walk x0.fOps x1 x2 ga a1 a2 gcap cap1 cap2 w hg h1 h2 (by omega)
end Go.Proofs.Ytbianedgogdeeaa
