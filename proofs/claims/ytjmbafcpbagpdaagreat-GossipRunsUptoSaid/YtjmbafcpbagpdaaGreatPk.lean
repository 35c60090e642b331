/- Progress: the walk of ProgressBack. -/
import Derived.Test.YtjmbafcpbagpdaaGreatPj
import Derived.Test.YtjmbafcpbagpdaaGreatPi
namespace Go.Proofs.YtjmbafcpbagpdaaGreat
open Go.RowKit Go.Maps
set_option linter.unusedVariables false
set_option linter.unusedSimpArgs false

/-- A front as it lies. -/
structure FRow where
  ao : Option Addr
  cap : Nat
  f : List TTime
def encF (r : FRow) : List Value := [.slice r.ao r.f.length r.cap]
theorem own_ne_map2 {α : Type} {enc : α → List Value} {w : World} {base mb sz : Nat} {e : TypeId} {v : Value} {L : List α} {es : List (TStamp × Value)} (h : OwnL enc w base e sz v L) (hM : MapL Tryz.prog 59 klS wfS w mb es) : ∀ g, v.ownBlock = some g → ¬ g = mb := fun g e1 e2 => by
  rcases h.form with ⟨h4, _⟩ | ⟨g', cap2, cells, h4, h5, _⟩
  · rw [h4] at e1; cases e1
  · rw [h4] at e1
    obtain rfl : g' = g := by simpa [Value.ownBlock] using e1
    exact hM.ne_blk h5 e2.symm
/-- The fronts that were, from base on. -/
structure Was (w : World) (base : Nat) (v : Value) (ops : List TOp) (cs : List (TStamp × Int)) (ws : List FRow) : Prop where
  own : OwnL encF w base 49 1 v ws
  rows : ∀ r ∈ ws, OwnT w base (.slice r.ao r.f.length r.cap) r.f
  fr : ∀ j (h : j < ws.length), IsFront (timesS ops j (aliveC cs)) ws[j].f
namespace Was
variable {w w' : World} {base : Nat} {v : Value} {ops : List TOp} {cs : List (TStamp × Int)} {ws : List FRow}
theorem below (h : Was w base v ops cs ws) (b : Below w.heap.size w w') : Was w' base v ops cs ws := ⟨h.own.below b (Nat.le_refl _), fun r hr => ⟨(h.rows r hr).1.below b (Nat.le_refl _), (h.rows r hr).2⟩, h.fr⟩
theorem turn (h : Was w base v ops cs ws) {mb : Nat} {es : List (TStamp × Value)} (hM : MapL Tryz.prog 59 klS wfS w mb es) (hc : Chg (fun k => k = mb) w w') : Was w' base v ops cs ws :=
  ⟨h.own.chg hc (own_ne_map2 h.own hM), fun r hr => ⟨(h.rows r hr).1.chg hc (own_ne_map2 (h.rows r hr).1 hM), (h.rows r hr).2⟩, h.fr⟩
theorem snoc (h : Was w base v ops cs ws) {r : FRow} {v' : Value} (hr : OwnT w base (.slice r.ao r.f.length r.cap) r.f) (hf : IsFront (timesS ops ws.length (aliveC cs)) r.f) (hc : Chg (fun k => v.ownBlock = some k) w w') (ho : OwnL encF w' base 49 1 v' (ws ++ [r])) : Was w' base v' ops cs (ws ++ [r]) := by
  have key : ∀ q : FRow, OwnT w base (.slice q.ao q.f.length q.cap) q.f → OwnT w' base (.slice q.ao q.f.length q.cap) q.f := fun q hq => ⟨hq.1.chg hc (fun g e1 e2 => by
    rcases hq.1.form with ⟨h4, _⟩ | ⟨g', cap2, cells, h4, h5, _⟩
    · rw [h4] at e1; cases e1
    · rw [h4] at e1
      obtain rfl : g' = g := by simpa [Value.ownBlock] using e1
      exact h.own.ne_blk h5 (by decide) e2), hq.2⟩
  refine ⟨ho, fun q hq => ?_, fun j hj => ?_⟩
  · rcases List.mem_append.1 hq with h1 | h1
    · exact key q (h.rows q h1)
    · obtain rfl := List.mem_singleton.1 h1
      exact key _ hr
  · rw [List.length_append, List.length_singleton] at hj
    by_cases hjl : j < ws.length
    · rw [List.getElem_append_left hjl]
      exact h.fr j hjl
    · obtain rfl : j = ws.length := by omega
      simpa using hf
end Was

end Go.Proofs.YtjmbafcpbagpdaaGreat
