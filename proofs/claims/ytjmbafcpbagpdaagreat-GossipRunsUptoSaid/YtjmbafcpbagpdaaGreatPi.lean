/- Progress: the walk of ProgressKeeps. -/
import Derived.RangeFuncNested
import Derived.RangeFuncBound
import Derived.RangeFuncCalls
import Derived.RangeFuncLeaves
import Derived.RangeFuncFrom
import Derived.Shelf.Abstract
import Derived.Shelf.RegionOpen
import Derived.WalkKit
import Derived.OwnWalkIn
import Derived.TacticsInMore
import Derived.LoopNIn
import Derived.LoopIn
import Derived.Test.YtjmbafcpbagpdaaGreatPh
import Derived.Lib.Hide
namespace Go.Proofs.YtjmbafcpbagpdaaGreat
open Go.RowKit Go.Maps Go.Shelf
attribute [local go_sem] Oper.semAt_some
set_option linter.unusedVariables false
set_option linter.unusedSimpArgs false

theorem imp_ops2 {w W : World} {ao : Option Addr} {cap : Nat} {xs : List TOp} (h : SlA w.heap.size 7 (ROp w.heap.size) w ao cap xs) (hb : Below w.heap.size w W) : SlA W.heap.size 7 (ROp W.heap.size) W ao cap xs := h.imp hb hb.size (fun _ _ _ h => h.imp hb hb.size)
def encK (x : TCount) : List Value := [.int .i64 x.fS.fLoc, .int .i64 x.fS.fT.fEpoch, .int .i64 x.fS.fT.fRound, .int .i64 x.fN]
theorem encK_len (x : TCount) : (encK x).length = 4 := rfl
theorem encK_one (x : TCount) : ∀ u ∈ encK x, u.oneCell' = true := by
  intro u hu
  simp only [encK, List.mem_cons, List.not_mem_nil, or_false] at hu
  rcases hu with rfl | rfl | rfl | rfl <;> rfl
theorem infoK : (Tryz.prog.info? 67).map (fun i => (i.zero, i.size, i.bytes)) = some (some (.agg #[.int .i64 0, .int .i64 0, .int .i64 0, .int .i64 0]), 4, 32) := by kernel_rfl

theorem rcount_all {B B' : Nat} {w w' : World} {la : Option Addr} {lc : Nat} {l : List TCount} (h : SlA B 4 (RCount B) w la lc l) : ∀ x ∈ l, RCount B' w' (encK x) x := fun x hx => by
  obtain ⟨j, hj, rfl⟩ := List.getElem_of_mem hx
  obtain ⟨b2, off2, rfl, _, _⟩ := h.addr (by omega)
  obtain ⟨_, _, _, _, h1, h2, h3, h4⟩ := RCount.at h hj rfl
  exact ⟨rfl, h1, h2, h3, h4⟩

end Go.Proofs.YtjmbafcpbagpdaaGreat
