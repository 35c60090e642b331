/- An array that came in reads as a list. -/
import Derived.Test.YtbiakolkcikeiaaBaseD
import Derived.OpenShut
import Derived.WideShapes
namespace Go
open Go.RowKit Go.ChangeShapes Go.WideShapes

def RAr {α : Type} (n sz : Nat) (E : World → List Value → α → Prop) (w : World) (cs : List Value) (xs : List α) : Prop :=
  xs.length = n ∧ cs.length = n * sz ∧ ∀ i (_ : i < xs.length), E w ((cs.drop (i * sz)).take sz) xs[i]

theorem RAr.of_trod {α H : Type} {enc : TypeId × Value → H} {P : Program} {w : World} {spare : Nat → Bool} {held : Bool} {t : TypeId} {fuel : Nat} {cs : List Value} {x : DataW H × List MemPlace} {B n sz : Nat} {E : World → List Value → α → Prop} {e : TypeId}
    (ht : P.underlying t = some (.array n e)) (hsz : P.cellsOf e = sz) (hct : P.cellsOf t = n * sz)
    (h : DataW.trod enc P w 0 spare held fuel t cs = some x) (hp : ∀ p ∈ x.2, p.block < B)
    (hE : ∀ n cs y, DataW.trod enc P w 0 spare held n e cs = some y → (∀ p ∈ y.2, p.block < B) → ∃ a, E w cs a) : ∃ xs, RAr n sz E w cs xs := by
  obtain ⟨ys, m, _, rfl, hl, hlen, hf⟩ := DataW.trod_array ht h
  rw [hct] at hl
  rw [hsz] at hf
  have hall : ∀ i, i < n → ∃ a : α, E w ((cs.drop (i * sz)).take sz) a := by
    intro i hi
    have hiy : i < ys.length := by omega
    have h1 := hf i hi
    rw [List.getElem?_eq_getElem hiy] at h1
    exact hE _ _ _ h1 (fun p hq => hp p (List.mem_flatMap.2 ⟨ys[i], List.getElem_mem hiy, hq⟩))
  obtain ⟨xs, hxl, hxx⟩ := list_of_all hall
  exact ⟨xs, hxl, hl, fun i hi => hxx i hi⟩

theorem okWide_array {P : Program} {w : World} {r : Reach} {base : Nat} {t e : TypeId} {v : Value} {n : Nat} (ht : P.underlying t = some (.array n e)) (h : Value.okWide P w r base t v) : ∃ cs, v = .agg cs ∧ cs.size = P.cellsOf t := by
  simp only [Value.okWide, ht] at h
  exact ⟨h.choose, h.choose_spec.1, h.choose_spec.2.1⟩
end Go
