/- Readings of the plain kinds. -/
import Derived.Test.YtjigbkklgekjlaaBaseC
import Derived.ChangeArms
namespace Go
open Go.RowKit Go.ChangeShapes Go.WideShapes

def RI (k : IntKind) (_ : World) (cs : List Value) (x : Int) : Prop := cs = [.int k x] ∧ (Lit.int k x).wf = true
def RB (_ : World) (cs : List Value) (x : Bool) : Prop := cs = [.bool x]
def RS (_ : World) (cs : List Value) (x : ByteArray) : Prop := cs = [.string x] ∧ x.size ≤ maxLen
def RSl {α : Type} (B sz : Nat) (E : World → List Value → α → Prop) (w : World) (cs : List Value) (xs : List α) : Prop :=
  ∃ ao cap, cs = [.slice ao xs.length cap] ∧ SlA B sz E w ao cap xs

section
variable {H : Type} {enc : TypeId × Value → H} {P : Program} {w : World} {spare : Nat → Bool} {held : Bool} {t : TypeId} {fuel : Nat} {cs : List Value} {x : DataW H × List MemPlace}

theorem RI.of_trod {k : IntKind} (ht : P.underlying t = some (.int k)) (h : DataW.trod enc P w 0 spare held fuel t cs = some x) : ∃ a, RI k w cs a := by
  obtain ⟨n, h1, _, h2⟩ := DataW.trod_int ht h
  exact ⟨n, h1, h2⟩
theorem RB.of_trod (ht : P.underlying t = some .bool) (h : DataW.trod enc P w 0 spare held fuel t cs = some x) : ∃ a, RB w cs a := by
  obtain ⟨n, h1, _⟩ := DataW.trod_bool ht h
  exact ⟨n, h1⟩
theorem RS.of_trod (ht : P.underlying t = some .string) (h : DataW.trod enc P w 0 spare held fuel t cs = some x) : ∃ a, RS w cs a := by
  obtain ⟨n, h1, _, h2⟩ := DataW.trod_string ht h
  exact ⟨n, h1, h2⟩
theorem RSl.of_trod {α : Type} {B sz : Nat} {E : World → List Value → α → Prop} {e : TypeId} (ht : P.underlying t = some (.slice e)) (hsz : P.cellsOf e = sz) (hs0 : 0 < sz)
    (h : DataW.trod enc P w 0 spare held fuel t cs = some x) (hp : ∀ p ∈ x.2, p.block < B)
    (hE : ∀ n cs y, DataW.trod enc P w 0 spare held n e cs = some y → (∀ p ∈ y.2, p.block < B) → ∃ a, E w cs a) : ∃ xs, RSl B sz E w cs xs := by
  obtain ⟨ao, cap, xs, h1, h2⟩ := SlA.of_trod ht hsz hs0 h hp hE
  exact ⟨xs, ao, cap, h1, h2⟩
theorem RSl.imp {α : Type} {B B' sz : Nat} {E E' : World → List Value → α → Prop} {w w' : World} {cs : List Value} {xs : List α} (h : RSl B sz E w cs xs) (hb : Below B w w') (hB : B ≤ B')
    (hE : ∀ cs x, x ∈ xs → E w cs x → E' w' cs x) : RSl B' sz E' w' cs xs := by
  obtain ⟨ao, cap, h1, h2⟩ := h
  exact ⟨ao, cap, h1, h2.imp hb hB hE⟩
end
end Go
