/- Progress: ProgressStays at the arguments as they come. -/
import Derived.Test.YtbholbjegfnpdaaPn
import Derived.Test.YtbholbjegfnpdaaGsz
namespace Go.Proofs.Ytbholbjegfnpdaa
open Go.RowKit Go.Maps
theorem pstays_row {w : World} (cs : Array Value) (x : TGraph) (hx : RGraph w.heap.size w (Value.cells (.agg cs)).toList x) (hz : x.fOps.length * 72 ≤ reachBytes) (hzi : ∀ o ∈ x.fOps, o.fIn.length * 8 ≤ reachBytes)
    (a1 : Option Addr) (len1 cap1 : Nat) (l1 : List Int) (hl1 : RSl w.heap.size 1 (RI .i64) w (Value.cells (.slice a1 len1 cap1)).toList l1) (hz1 : cap1 * 8 ≤ reachBytes)
    (a2 : Option Addr) (len2 cap2 : Nat) (l2 : List TMillracelaw18Move) (hl2 : RSl w.heap.size 2 (RMillracelaw18Move w.heap.size) w (Value.cells (.slice a2 len2 cap2)).toList l2) (hz2 : cap2 * 16 ≤ reachBytes) :
    Calls Try.prog 3 #[.agg cs, .slice a1 len1 cap1, .slice a2 len2 cap2] w fun e w' => e = .returned (.bool true) ∧ Below w.heap.size w w' := by
  obtain ⟨ag, cg, rfl, hs⟩ := graph_agg hx
  obtain ⟨b1, c1, h1, h2⟩ := hl1
  obtain ⟨b2, c2, h3, h4⟩ := hl2
  obtain ⟨rfl, rfl, rfl⟩ : a1 = b1 ∧ len1 = l1.length ∧ cap1 = c1 := by simpa [Value.cells] using h1
  obtain ⟨rfl, rfl, rfl⟩ : a2 = b2 ∧ len2 = l2.length ∧ cap2 = c2 := by simpa [Value.cells] using h3
  have hr : reachBytes = 140737488351232 := rfl
  by_cases hok : (gcheck x.fOps).2 = 0
  · exact pstays_ok x.fOps cg ag l1 a1 cap1 l2 a2 cap2 w hs h2 h4 hok (fun o ho => by have := hzi o ho; omega)
  · exact pstays_no x.fOps cg ag _ _ w hs hok
end Go.Proofs.Ytbholbjegfnpdaa
