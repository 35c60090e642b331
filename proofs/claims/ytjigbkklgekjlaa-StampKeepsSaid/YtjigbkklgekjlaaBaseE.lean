/- A slice over a block that is known whole reads as its elements. -/
import Derived.Test.YtjigbkklgekjlaaBaseB
import Derived.Test.YtjigbkklgekjlaaBaseD
namespace Go
open Go.RowKit

theorem SlA.of_blk {α : Type} {B sz b cap : Nat} {E : World → List Value → α → Prop} {w : World} {xs : List α} {cells : Array Value} {T : TypeId} (h : Blk w b cells T) (hb : b < B) (h1 : xs.length ≤ cap) (h2 : cap ≤ maxLen)
    (hE : ∀ i (_ : i < xs.length), ∃ cs : List Value, cs.length = sz ∧ (∀ j, j < sz → cells[i * sz + j]? = cs[j]?) ∧ E w cs xs[i]) : SlA B sz E w (some ⟨b, 0, none⟩) cap xs :=
  ⟨h1, h2, (by simp), fun _ => ⟨b, 0, rfl, hb, fun i hi => by
    obtain ⟨cs, h3, h4, h5⟩ := hE i hi
    exact ⟨cs, h3, fun j hj => by rw [Nat.zero_add, h.cell]; exact h4 j hj, h5⟩⟩⟩

/-- Elements of one cell, written out. -/
theorem SlA.of_blk1 {B b cap : Nat} {k : IntKind} {w : World} {xs : List Int} {cells : Array Value} {T : TypeId} (h : Blk w b cells T) (hb : b < B) (h1 : xs.length ≤ cap) (h2 : cap ≤ maxLen)
    (hE : ∀ i (_ : i < xs.length), cells[i]? = some (.int k xs[i]) ∧ (Lit.int k xs[i]).wf = true) : SlA B 1 (RI k) w (some ⟨b, 0, none⟩) cap xs :=
  SlA.of_blk h hb h1 h2 fun i hi => ⟨[.int k xs[i]], rfl, fun j hj => by
    obtain rfl : j = 0 := by omega
    rw [Nat.mul_one, Nat.add_zero]
    exact (hE i hi).1, rfl, (hE i hi).2⟩
end Go
