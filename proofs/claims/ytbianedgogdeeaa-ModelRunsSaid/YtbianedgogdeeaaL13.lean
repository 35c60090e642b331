/- A cell of an own row: read, written over. -/
import Derived.Test.YtbianedgogdeeaaL1
import Derived.Test.YtbianedgogdeeaaL8
namespace Go.Proofs.Ytbianedgogdeeaa
open Go.RowKit Go.Maps
set_option linter.unusedVariables false

theorem flat_setX {α : Type} {enc : α → List Value} {size : Nat} (hk : ∀ x, (enc x).length = size) {j : Nat} (hj : j < size) : ∀ (xs : List α) (i : Nat) (hi : i < xs.length) {x' : α} {c : Value}, enc x' = (enc xs[i]).set j c → (xs.set i x').flatMap enc = (xs.flatMap enc).set (i * size + j) c
  | [], i, hi, _, _, _ => absurd hi (Nat.not_lt_zero _)
  | x :: r, 0, hi, x', c, hx => by
    rw [List.set_cons_zero, List.flatMap_cons, List.flatMap_cons, List.set_append_left _ _ (by rw [hk, Nat.zero_mul, Nat.zero_add]; exact hj), Nat.zero_mul, Nat.zero_add]
    rw [show enc x' = (enc x).set j c from hx]
  | x :: r, i + 1, hi, x', c, hx => by
    rw [List.set_cons_succ, List.flatMap_cons, List.flatMap_cons, flat_setX hk hj r i (by simpa using hi) hx, List.set_append_right _ _ (by rw [hk, Nat.succ_mul]; omega)]
    congr 2
    rw [hk, Nat.succ_mul]
    omega
theorem own_setX {α : Type} {enc : α → List Value} {size base g n cap : Nat} {e : TypeId} {w : World} {xs : List α} (h : OwnL enc w base e size (.slice (some ⟨g, 0, none⟩) n cap) xs) (hk : ∀ x, (enc x).length = size) {i j : Nat} (hi : i < xs.length) (hj : j < size) {x' : α} {c : Value} (hx : enc x' = (enc xs[i]).set j c) :
    OwnL enc (w.setCell ⟨g, i * size + j, none⟩ c) base e size (.slice (some ⟨g, 0, none⟩) n cap) (xs.set i x') := by
  rcases h.form with ⟨h1, _⟩ | ⟨g', cap', cells, h1, h2, h3, h4, h5, h6, h7, h8⟩
  · cases h1
  · simp only [Value.slice.injEq, Option.some.injEq, Addr.mk.injEq] at h1
    obtain ⟨⟨rfl, _⟩, rfl, rfl⟩ := h1
    have := ownBlk (enc := enc) (size := size) (xs := xs.set i x') (h2.set (i * size + j) c) h6 (by rw [List.length_set]; exact h3) h4 (by simpa using h5) (by rw [List.length_set, flat_setX hk hj xs i hi hx, ← h8, Array.toList_setIfInBounds, List.take_set]) (flat_len hk _)
    rwa [List.length_set] at this
theorem own_cellX {α : Type} {enc : α → List Value} {size base g n cap : Nat} {e : TypeId} {w : World} {xs : List α} (h : OwnL enc w base e size (.slice (some ⟨g, 0, none⟩) n cap) xs) (hk : ∀ x, (enc x).length = size) {i : Nat} (hi : i < xs.length) : (∀ j, j < size → w.cell? ⟨g, i * size + j, none⟩ = (enc xs[i])[j]?) ∧ ∀ k, w.frozen? ⟨g, k, none⟩ = false := by
  rcases h.form with ⟨h1, _⟩ | ⟨g', cap', cells, h1, h2, h3, h4, h5, h6, h7, h8⟩
  · cases h1
  · simp only [Value.slice.injEq, Option.some.injEq, Addr.mk.injEq] at h1
    obtain ⟨⟨rfl, _⟩, rfl, rfl⟩ := h1
    refine ⟨fun j hj => ?_, fun k => h2.frozen k⟩
    have hm1 : (i + 1) * size ≤ xs.length * size := Nat.mul_le_mul_right size hi
    have hm2 : (i + 1) * size = i * size + size := Nat.succ_mul i size
    rw [h2.cell, ← flat_at hk xs i j hi hj, ← h8, List.getElem?_take, if_pos (by omega)]
    simp
end Go.Proofs.Ytbianedgogdeeaa
