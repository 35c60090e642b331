/- Slices of a slice. -/
import Derived.Test.YtjmbafcpbagpdaaL1
namespace Go.Proofs.Ytjmbafcpbagpdaa
open Go.RowKit
set_option linter.unusedVariables false

theorem sla_take {α : Type} {B sz : Nat} {E : World → List Value → α → Prop} {w : World} {ao : Option Addr} {cap : Nat} {xs : List α} (h : SlA B sz E w ao cap xs) (k : Nat) : SlA B sz E w ao cap (xs.take k) := by
  obtain ⟨h1, h2, h3, h4⟩ := h
  refine ⟨Nat.le_trans (List.length_take_le' _ _) h1, h2, h3, fun hne => ?_⟩
  obtain ⟨b, off, rfl, hlt, h5⟩ := h4 (fun e => hne (by rw [e]; simp))
  refine ⟨b, off, rfl, hlt, fun i hi => ?_⟩
  rw [List.length_take] at hi
  obtain ⟨cs, h6, h7, h8⟩ := h5 i (by omega)
  exact ⟨cs, h6, h7, by rw [List.getElem_take]; exact h8⟩
theorem sla_drop {α : Type} {B sz b off : Nat} {E : World → List Value → α → Prop} {w : World} {cap : Nat} {xs : List α} (h : SlA B sz E w (some ⟨b, off, none⟩) cap xs) (k : Nat) (hk : k ≤ xs.length) (x : Option Addr) (cap' : Nat) (hx : (x = some ⟨b, off + k * sz, none⟩ ∧ cap' = cap - k) ∨ (cap = k ∧ cap' = 0)) : SlA B sz E w x cap' (xs.drop k) := by
  have h1 := h.1
  have h2 := h.2.1
  rcases hx with ⟨rfl, rfl⟩ | ⟨rfl, rfl⟩
  · refine ⟨by simp; omega, by omega, by simp, fun hne => ?_⟩
    have hlt : k < xs.length := by
      rcases Nat.lt_or_ge k xs.length with h | h
      · exact h
      · exact absurd (List.drop_of_length_le h) hne
    refine ⟨b, off + k * sz, rfl, SlA.lt h (by omega), fun i hi => ?_⟩
    rw [List.length_drop] at hi
    obtain ⟨cs, h6, h7, h8⟩ := h.get (k + i) (by omega)
    refine ⟨cs, h6, fun j hj => ?_, by rw [List.getElem_drop]; exact h8⟩
    rw [show off + k * sz + (i * sz + j) = off + ((k + i) * sz + j) by rw [Nat.add_mul]; omega]
    exact h7 j hj
  · have : xs.drop cap = [] := List.drop_of_length_le h1
    rw [this]
    exact ⟨by simp, by unfold maxLen; omega, fun _ => rfl, fun h => absurd rfl h⟩
theorem sla_dropA {α : Type} {B sz : Nat} {E : World → List Value → α → Prop} {w : World} {ad : Addr} {cap : Nat} {xs : List α} (h : SlA B sz E w (some ad) cap xs) (k : Nat) (hk : k ≤ xs.length) (x : Option Addr) (cap' : Nat) (hx : (x = some (ad.add (k * sz)) ∧ cap' = cap - k) ∨ (cap = k ∧ cap' = 0)) (hx2 : x ≠ none) : SlA B sz E w x cap' (xs.drop k) := by
  by_cases hne : xs = []
  · subst hne
    have h2 := h.2.1
    refine ⟨by simp, ?_, fun e => absurd e hx2, fun e => absurd (by simp) e⟩
    rcases hx with ⟨_, rfl⟩ | ⟨_, rfl⟩
    · omega
    · unfold maxLen; omega
  · obtain ⟨b, off, e, _⟩ := h.2.2.2 hne
    obtain rfl : ad = ⟨b, off, none⟩ := by simpa using e
    exact sla_drop h k hk x cap' (by
      rcases hx with ⟨h1, h2⟩ | h1
      · exact .inl ⟨h1.trans (by first | rfl | simp [Addr.add]), h2⟩
      · exact .inr h1)
def slen : Value → Nat
  | .slice _ n _ => n
  | _ => 0
end Go.Proofs.Ytjmbafcpbagpdaa
