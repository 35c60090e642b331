/- A range over a function whose rounds keep all blocks but the loop's own record: the law takes the record's turns alone, so an iterator may rely on maps and on inner loops of its own. -/
import Derived.RangeFuncNested
import Derived.RangeFuncBound
import Derived.RangeFuncCalls
import Derived.RangeFuncLeaves
import Derived.RangeFuncFrom
import Derived.RangeFuncWrites
import Derived.Test.YtjmbafcpbagpdaaGreatL2
namespace Go
open Go.RowKit

/-- The loop's bookkeeping as it lies, from B on: the block of the rounds' deferred calls, the record. -/
structure RecAt (B : Nat) (rec : Loop) (W : World) : Prop where
  rc : W.heap[B + 1]? = some (.loop rec)
  df : W.heap[B]? = some (.deferred (some []))
namespace RecAt
variable {B : Nat} {rec : Loop} {W W' : World}
theorem lt (h : RecAt B rec W) : B + 1 < W.heap.size := (Array.getElem?_eq_some_iff.1 h.rc).1
theorem put (h : RecAt B rec W) (rec' : Loop) : RecAt B rec' (W.putObj (B + 1) (.loop rec')) :=
  ⟨World.putObj_heap_same h.lt, (World.putObj_heap_other (by omega)).trans h.df⟩
theorem kept (h : RecAt B rec W) (k : KeepsFrom B W W') : RecAt B rec W' := ⟨k.same _ _ (by omega) h.rc rfl, k.same _ _ (Nat.le_refl _) h.df rfl⟩
theorem grown {row : Option Nat} (h : RecAt B rec W) (hg : W.grownBy W' row) (hr : ∀ r, row = some r → ∃ o : Obj, W.heap[r]? = some o ∧ o.isWalk = true) : RecAt B rec W' :=
  ⟨(grownBy_keeps hg (fun r e => by obtain ⟨o, h1, h2⟩ := hr r e; exact ⟨o, h1, h2⟩) h.rc rfl).trans h.rc, (grownBy_keeps hg (fun r e => by obtain ⟨o, h1, h2⟩ := hr r e; exact ⟨o, h1, h2⟩) h.df rfl).trans h.df⟩
theorem laid (w : World) (rec : Loop) : RecAt w.heap.size rec ((w.alloc (.deferred (some []))).alloc (.loop rec)) := by
  constructor
  · have := World.alloc_heap_new (w.alloc (.deferred (some []))) (.loop rec)
    rwa [World.size_alloc] at this
  · exact (Below.heap_alloc _ _ _ (by simp)).trans (World.alloc_heap_new w _)
end RecAt
section
variable {F : Fence} {n : Nat} {P : Program}

end
end Go
