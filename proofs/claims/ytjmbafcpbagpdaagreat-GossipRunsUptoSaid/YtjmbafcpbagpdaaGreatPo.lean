/- Progress: small things for ProgressStays: slices of a slice, fronts that were, the alive pointstamps. -/
import Derived.Test.YtjmbafcpbagpdaaGreatPm
import Derived.Test.YtjmbafcpbagpdaaGreatTyMove
import Derived.Test.YtjmbafcpbagpdaaGreatL11
import Derived.Deep.CutBlock
namespace Go.Proofs.YtjmbafcpbagpdaaGreat
open Go.RowKit Go.Maps
set_option linter.unusedVariables false
set_option linter.unusedSimpArgs false

/-- The fronts of a list's pointstamps, that were, from base on. -/
structure WasL (w : World) (base : Nat) (v : Value) (ops : List TOp) (A : List TStamp) (ws : List FRow) : Prop where
  own : OwnL encF w base 49 1 v ws
  rows : ∀ r ∈ ws, OwnT w base (.slice r.ao r.f.length r.cap) r.f
  fr : ∀ j (h : j < ws.length), IsFront (timesS ops j A) ws[j].f
namespace WasL
variable {w w' : World} {base : Nat} {v : Value} {ops : List TOp} {A : List TStamp} {ws : List FRow}
theorem below (h : WasL w base v ops A ws) (b : Below w.heap.size w w') : WasL w' base v ops A ws := ⟨h.own.below b (Nat.le_refl _), fun r hr => ⟨(h.rows r hr).1.below b (Nat.le_refl _), (h.rows r hr).2⟩, h.fr⟩
theorem chg (h : WasL w base v ops A ws) {mb : Nat} (hm : mb < base) (hc : Chg (fun k => k = mb) w w') : WasL w' base v ops A ws :=
  ⟨h.own.chg hc (fun g e1 e2 => by have := (h.own.lt g e1).1; omega), fun r hr => ⟨(h.rows r hr).1.chg hc (fun g e1 e2 => by have := ((h.rows r hr).1.lt g e1).1; omega), (h.rows r hr).2⟩, h.fr⟩
theorem snoc (h : WasL w base v ops A ws) {r : FRow} {v' : Value} (hr : OwnT w base (.slice r.ao r.f.length r.cap) r.f) (hf : IsFront (timesS ops ws.length A) r.f) (hc : Chg (fun k => v.ownBlock = some k) w w') (ho : OwnL encF w' base 49 1 v' (ws ++ [r])) : WasL w' base v' ops A (ws ++ [r]) := by
  have key : ∀ q : FRow, OwnT w base (.slice q.ao q.f.length q.cap) q.f → OwnT w' base (.slice q.ao q.f.length q.cap) q.f := fun q hq => ⟨hq.1.chg hc (fun g e1 e2 => by
    rcases hq.1.form with ⟨h4, _⟩ | ⟨g', cap2, cells, h4, h5, _⟩
    · rw [h4] at e1; cases e1
    · rw [h4] at e1
      obtain rfl : g' = g := by simpa [Value.ownBlock] using e1
      exact h.own.ne_blk h5 (by decide) e2), hq.2⟩
  refine ⟨ho, fun q hq => ?_, fun j hj => ?_⟩
  · rcases List.mem_append.1 hq with h1 | h1
    · exact key q (h.rows q h1)
    · obtain rfl := List.mem_singleton.1 h1
      exact key _ hr
  · rw [List.length_append, List.length_singleton] at hj
    by_cases hjl : j < ws.length
    · rw [List.getElem_append_left hjl]
      exact h.fr j hjl
    · obtain rfl : j = ws.length := by omega
      simpa using hf
end WasL
end Go.Proofs.YtjmbafcpbagpdaaGreat
