/- A function whose body holds ranges over functions in a loop: the marks among its deferred calls. -/
import Derived.RangeFuncLeaves
import Derived.RangeFuncFrom
import Derived.RangeFuncWrites
namespace Go
open Go.RowKit
variable {P : Program} {F : Fence} {n : Nat}

/-- The marks of ranges over functions that have run out: each one's block, distinct, at or above B. -/
def Marks (B : Nat) : List Deferred → World → Prop
  | [], _ => True
  | d :: ds, w => ∃ D, d = { target := .collected D, args := #[] } ∧ B ≤ D ∧ w.heap[D]? = some (.deferred (some [])) ∧ (∀ e ∈ ds, e ≠ d) ∧ Marks B ds w

theorem Marks.kept {B : Nat} : ∀ {ds : List Deferred} {w w' : World}, Marks B ds w → (∀ D, B ≤ D → w.heap[D]? = some (.deferred (some [])) → { target := .collected D, args := #[] } ∈ ds → w'.heap[D]? = some (.deferred (some []))) → Marks B ds w'
  | [], _, _, _, _ => trivial
  | d :: ds, w, w', ⟨D, e, hB, hD, hne, hr⟩, h => ⟨D, e, hB, h D hB hD (by simp [e]), hne, hr.kept (fun D' h1 h2 h3 => h D' h1 h2 (by simp [h3]))⟩

/-- What the marks' going leaves: all but the blocks for deferred calls. -/
structure ShutM (B : Nat) (w w' : World) : Prop where
  below : Below B w w'
  same : ∀ i : Nat, (∀ x, w.heap[i]? ≠ some (Obj.deferred x)) → w'.heap[i]? = w.heap[i]?
theorem ShutM.refl (B : Nat) (w : World) : ShutM B w w := ⟨Below.refl _ _, fun _ _ => rfl⟩
theorem ShutM.cell {B : Nat} {w w' : World} (h : ShutM B w w') {b off : Nat} {v : Value} (hc : w.cell? ⟨b, off, none⟩ = some v) : w'.cell? ⟨b, off, none⟩ = some v := by
  have : ∀ x, w.heap[b]? ≠ some (Obj.deferred x) := by
    intro x e
    simp [World.cell?, e] at hc
  have h2 := h.same b this
  simp only [World.cell?] at hc ⊢
  rw [h2]
  exact hc

theorem leavesM_marks {fn : Func} {tmps : Array Value} {R : Ending → World → Prop} {B : Nat} : ∀ (ds : List Deferred) (w : World), Marks B ds w → B ≤ w.heap.size →
    (∀ w', ShutM B w w' → LeavesIn F n P fn tmps R [] .returning w') → LeavesInM F n P fn tmps R ds .returning w
  | [], w, _, _, h => h w (ShutM.refl B w)
  | d :: ds, w, ⟨D, e, hB, hD, hne, hr⟩, hBw, h => by
    subst e
    have hlt : D < w.heap.size := (Array.getElem?_eq_some_iff.1 hD).1
    have hput : ∀ i : Nat, i ≠ D → (w.putObj D (.deferred none)).heap[i]? = w.heap[i]? := by
      intro i hi
      simp [World.putObj, Ne.symm hi]
    have hbel : Below B w (w.putObj D (.deferred none)) := belowK_b (w := { w with heap := w.heap.extract 0 B }) (by simp; omega) w D _ _ (by simp; omega) hD rfl rfl
    refine ⟨by simp, .inl ⟨D, _, rfl, run_takeDeferred hD, leavesM_marks ds _ ?_ (by simpa [World.putObj] using hBw) ?_⟩⟩
    · refine hr.kept (fun D' h1 h2 h3 => ?_)
      have : D' ≠ D := fun e => hne _ h3 (by rw [e])
      rw [hput D' this]
      exact h2
    · intro w' hs
      refine h w' ⟨hbel.trans hs.below, fun i hi => ?_⟩
      have hiD : i ≠ D := fun e => hi _ (by rw [e]; exact hD)
      rw [hs.same i (by rw [hput i hiD]; exact hi), hput i hiD]

end Go
