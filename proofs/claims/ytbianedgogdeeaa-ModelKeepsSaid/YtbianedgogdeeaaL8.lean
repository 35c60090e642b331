/- Small words on rows and slices. -/
import Derived.Test.YtbianedgogdeeaaL1
namespace Go
open Go.RowKit
set_option linter.unusedVariables false

theorem slaDrop {α : Type} {B sz b off : Nat} {E : World → List Value → α → Prop} {w : World} {cap : Nat} {xs : List α} (h : SlA B sz E w (some ⟨b, off, none⟩) cap xs) (k : Nat) (hk : k ≤ xs.length) (x : Option Addr) (cap' : Nat) (hx : (x = some ⟨b, off + k * sz, none⟩ ∧ cap' = cap - k) ∨ (cap = k ∧ cap' = 0)) : SlA B sz E w x cap' (xs.drop k) := by
  have h1 := h.1
  have h2 := h.2.1
  rcases hx with ⟨rfl, rfl⟩ | ⟨rfl, rfl⟩
  · refine ⟨by simp; omega, by omega, by simp, fun hne => ?_⟩
    have hlt : k < xs.length := by
      rcases Nat.lt_or_ge k xs.length with h | h
      · exact h
      · exact absurd (List.drop_of_length_le h) hne
    refine ⟨b, off + k * sz, rfl, SlA.lt h (by omega), fun i hi => ?_⟩
    rw [List.length_drop] at hi
    obtain ⟨cs, h6, h7, h8⟩ := h.get (k + i) (by omega)
    refine ⟨cs, h6, fun j hj => ?_, by rw [List.getElem_drop]; exact h8⟩
    rw [show off + k * sz + (i * sz + j) = off + ((k + i) * sz + j) by rw [Nat.add_mul]; omega]
    exact h7 j hj
  · have : xs.drop cap = [] := List.drop_of_length_le h1
    rw [this]
    exact ⟨by simp, by unfold maxLen; omega, fun _ => rfl, fun h => absurd rfl h⟩
theorem slaTake {α : Type} {B sz : Nat} {E : World → List Value → α → Prop} {w : World} {ao : Option Addr} {cap : Nat} {xs : List α} (h : SlA B sz E w ao cap xs) (k : Nat) : SlA B sz E w ao cap (xs.take k) := by
  obtain ⟨h1, h2, h3, h4⟩ := h
  refine ⟨Nat.le_trans (List.length_take_le' _ _) h1, h2, h3, fun hne => ?_⟩
  obtain ⟨b, off, rfl, hlt, h5⟩ := h4 (fun e => hne (by rw [e]; simp))
  refine ⟨b, off, rfl, hlt, fun i hi => ?_⟩
  rw [List.length_take] at hi
  obtain ⟨cs, h6, h7, h8⟩ := h5 i (by omega)
  exact ⟨cs, h6, h7, by rw [List.getElem_take]; exact h8⟩
/-- A row made here is a row of the call's own. -/
theorem ownBlk {α : Type} {enc : α → List Value} {w : World} {base g cap size : Nat} {e : TypeId} {cells : Array Value} {xs : List α} (h : Blk w g cells e) (hb : base ≤ g) (h1 : xs.length ≤ cap) (h2 : cap ≤ maxLen) (h3 : cells.size = cap * size)
    (h4 : cells.toList.take (xs.length * size) = xs.flatMap enc) (hk : (xs.flatMap enc).length = xs.length * size) : OwnL enc w base e size (.slice (some ⟨g, 0, none⟩) xs.length cap) xs :=
  ⟨hk, .inr ⟨g, cap, cells, rfl, hb, h, h1, h2, h3, h4⟩⟩
/-- The empty row that '[]T{}' lays. -/
theorem ownEmpty {α : Type} {enc : α → List Value} (w : World) (size : Nat) (e : TypeId) : OwnL enc (w.alloc (.cells #[] e)) w.heap.size e size (.slice (some ⟨w.heap.size, 0, none⟩) 0 0) [] :=
  ownBlk (enc := enc) (size := size) (xs := []) (cap := 0) (Blk.new w #[] e) (Nat.le_refl _) (Nat.le_refl 0) (by unfold maxLen; omega) (by simp) (by simp) (by simp)
theorem belowAlloc (w : World) (o : Obj) : Below w.heap.size w (w.alloc o) := Below.alloc (Below.refl _ _) (Nat.le_refl _) _
theorem infoParts {P : Program} {t : TypeId} {z : Option Value} {s b : Nat} (h : (P.info? t).map (fun i => (i.zero, i.size, i.bytes)) = some (z, s, b)) : ∃ i, P.info? t = some i ∧ i.zero = z ∧ i.size = s ∧ i.bytes = b := by
  cases hi : P.info? t with
  | none => rw [hi] at h; cases h
  | some i => rw [hi] at h; simp at h; exact ⟨i, rfl, h.1, h.2.1, h.2.2⟩
end Go
