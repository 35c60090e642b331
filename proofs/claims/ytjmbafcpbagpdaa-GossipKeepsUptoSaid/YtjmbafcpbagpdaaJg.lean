/- Gossip: a case as it comes in; GossipKeeps at the arguments as they come. -/
import Derived.Test.YtjmbafcpbagpdaaJf
import Derived.Test.YtjmbafcpbagpdaaJh
namespace Go.Proofs.Ytjmbafcpbagpdaa
open Go.RowKit Go.Maps
set_option linter.unusedVariables false
set_option linter.unusedSimpArgs false

theorem gkeeps_row {w : World} (cs : Array Value) (x : TCaseG) (hx : RCaseB w.heap.size w (Value.cells (.agg cs)).toList x)
    (a1 : Option Addr) (len1 cap1 : Nat) (l1 : List TCount) (hl1 : RSl w.heap.size 4 (RCount w.heap.size) w (Value.cells (.slice a1 len1 cap1)).toList l1) (z1 : cap1 ≤ 1048576) :
    Calls Try.prog 4 #[.agg cs, .slice a1 len1 cap1] w fun e w' => e = .returned (.bool true) ∧ Below w.heap.size w w' := by
  obtain ⟨ao, cap, ba, bc, h1, h2, h3, h4, h5, h6⟩ := hx
  obtain rfl : cs = #[.slice ao x.ops.length cap, .int .i64 x.k, .slice ba x.b.length bc] := by cases cs; simpa [Value.cells] using h1
  obtain ⟨b1, c1, q1, q2⟩ := hl1
  obtain ⟨rfl, rfl, rfl⟩ : a1 = b1 ∧ len1 = l1.length ∧ cap1 = c1 := by simpa [Value.cells] using q1
  exact gkeeps_walk x.ops cap ao x.k x.b ba bc l1 a1 cap1 w h2 (fun o ho => by have := h3 o ho; omega) h4 h5 q2 (Nat.le_trans q2.1 z1)
end Go.Proofs.Ytjmbafcpbagpdaa
