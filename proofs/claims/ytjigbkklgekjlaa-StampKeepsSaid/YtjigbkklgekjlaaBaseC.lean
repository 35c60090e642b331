/- What a slice of whatever elements that came in reads as: a list; and how it stays so while only new memory is written. -/
import Derived.Deep.Slices
import Derived.ChangeOld
import Derived.Below
import Derived.OpenShut
import Derived.WideShapes
namespace Go
open Go.RowKit Go.ChangeShapes Go.WideShapes

theorem list_of_all {α : Type} {n : Nat} {p : Nat → α → Prop} (h : ∀ i, i < n → ∃ a, p i a) : ∃ xs : List α, xs.length = n ∧ ∀ i (hi : i < xs.length), p i xs[i] := by
  induction n with
  | zero => exact ⟨[], rfl, fun i hi => absurd hi (Nat.not_lt_zero _)⟩
  | succ n ih =>
    obtain ⟨xs, hl, hx⟩ := ih (fun i hi => h i (by omega))
    obtain ⟨a, ha⟩ := h n (by omega)
    refine ⟨xs ++ [a], by simp [hl], fun i hi => ?_⟩
    by_cases hin : i < xs.length
    · rw [List.getElem_append_left hin]; exact hx i hin
    · have : i = n := by simp [hl] at hi; omega
      subst this
      rw [List.getElem_append_right (by omega)]
      simpa [hl] using ha

/-- A slice (its address and capacity), its elements of sz cells, all below block B; each reads by E. -/
def SlA {α : Type} (B sz : Nat) (E : World → List Value → α → Prop) (w : World) (ao : Option Addr) (cap : Nat) (xs : List α) : Prop :=
  xs.length ≤ cap ∧ cap ≤ maxLen ∧ (ao = none → cap = 0) ∧
  (xs ≠ [] → ∃ b off, ao = some ⟨b, off, none⟩ ∧ b < B ∧ ∀ i (_ : i < xs.length), ∃ cs : List Value, cs.length = sz ∧ (∀ j, j < sz → w.cell? ⟨b, off + (i * sz + j), none⟩ = cs[j]?) ∧ E w cs xs[i])

section
variable {α : Type} {B B' sz : Nat} {E E' : World → List Value → α → Prop} {w w' : World} {ao : Option Addr} {cap : Nat} {xs : List α}

theorem SlA.imp (h : SlA B sz E w ao cap xs) (hb : Below B w w') (hB : B ≤ B') (hE : ∀ cs x, x ∈ xs → E w cs x → E' w' cs x) : SlA B' sz E' w' ao cap xs := by
  obtain ⟨h1, h2, h3, h4⟩ := h
  refine ⟨h1, h2, h3, fun hne => ?_⟩
  obtain ⟨b, off, rfl, hlt, h5⟩ := h4 hne
  refine ⟨b, off, rfl, Nat.lt_of_lt_of_le hlt hB, fun i hi => ?_⟩
  obtain ⟨cs, h6, h7, h8⟩ := h5 i hi
  exact ⟨cs, h6, fun j hj => by rw [hb.cell (p := ⟨b, _, none⟩) hlt]; exact h7 j hj, hE _ _ (List.getElem_mem _) h8⟩

theorem SlA.len (h : SlA B sz E w ao cap xs) : xs.length ≤ 9223372036854775807 := by
  have h1 := h.1
  have h2 := h.2.1
  unfold maxLen at h2
  omega

/-- Where there is an element: the address. -/
theorem SlA.addr (h : SlA B sz E w ao cap xs) (hne : 0 < xs.length) : ∃ b off, ao = some ⟨b, off, none⟩ ∧ b < B ∧ ∀ i (_ : i < xs.length), ∃ cs : List Value, cs.length = sz ∧ (∀ j, j < sz → w.cell? ⟨b, off + (i * sz + j), none⟩ = cs[j]?) ∧ E w cs xs[i] :=
  h.2.2.2 (fun e => by simp [e] at hne)

theorem SlA.get {b off : Nat} (h : SlA B sz E w (some ⟨b, off, none⟩) cap xs) (i : Nat) (hi : i < xs.length) :
    ∃ cs : List Value, cs.length = sz ∧ (∀ j, j < sz → w.cell? ⟨b, off + (i * sz + j), none⟩ = cs[j]?) ∧ E w cs xs[i] := by
  obtain ⟨b', off', e, _, h5⟩ := h.addr (by omega)
  simp only [Option.some.injEq, Addr.mk.injEq, and_true] at e
  obtain ⟨rfl, rfl⟩ := e
  exact h5 i hi

theorem SlA.lt {b off : Nat} (h : SlA B sz E w (some ⟨b, off, none⟩) cap xs) (hne : 0 < xs.length) : b < B := by
  obtain ⟨b', off', e, hb, _⟩ := h.addr hne
  simp only [Option.some.injEq, Addr.mk.injEq, and_true] at e
  obtain ⟨rfl, rfl⟩ := e
  exact hb

theorem SlA.nil (B sz : Nat) (E : World → List Value → α → Prop) (w : World) : SlA B sz E w none 0 [] :=
  ⟨Nat.le_refl _, by unfold maxLen; omega, fun _ => rfl, fun h => absurd rfl h⟩

variable {H : Type} {enc : TypeId × Value → H} {P : Program} {spare : Nat → Bool} {held : Bool}

theorem SlA.of_trod {t e : TypeId} {fuel : Nat} {cs : List Value} {x : DataW H × List MemPlace} (ht : P.underlying t = some (.slice e)) (hsz : P.cellsOf e = sz) (hs0 : 0 < sz)
    (h : DataW.trod enc P w 0 spare held fuel t cs = some x) (hp : ∀ p ∈ x.2, p.block < B)
    (hE : ∀ n cs y, DataW.trod enc P w 0 spare held n e cs = some y → (∀ p ∈ y.2, p.block < B) → ∃ a, E w cs a) :
    ∃ ao cap xs, cs = [.slice ao xs.length cap] ∧ SlA B sz E w ao cap xs := by
  rcases Deep.open_slice ht h with ⟨rfl, rfl⟩ | ⟨a, len, cap, m, n, D, Pl, rfl, _, hl, hm, hmm, rfl, hx⟩
  · exact ⟨none, 0, [], rfl, SlA.nil _ _ _ _⟩
  have hlm : len ≤ m := by rw [hmm]; split <;> omega
  rw [hsz] at hx hp
  have hall : ∀ i, i < len → ∃ y : α, ∃ cs' : List Value, cs'.length = sz ∧ (∀ j, j < sz → w.cell? ((a.add (i * sz)).add j) = cs'[j]?) ∧ E w cs' y := by
    intro i hi
    obtain ⟨cs', h1, h2⟩ := hx i (by omega)
    obtain ⟨_, h3, h4⟩ := World.cells?_some h1
    obtain ⟨y, hy⟩ := hE _ _ _ h2 (fun p hp' => hp p (List.mem_append_right _ (List.mem_flatMap.2 ⟨i, List.mem_range.2 (by omega), hp'⟩)))
    exact ⟨y, cs', h3, h4, hy⟩
  obtain ⟨xs, hxl, hxx⟩ := list_of_all hall
  subst hxl
  refine ⟨some a, cap, xs, rfl, hl, hm, (by simp), fun hne => ?_⟩
  have hpos : 0 < xs.length := List.length_pos_iff.2 hne
  have hspot : a.spot = none := by
    obtain ⟨cs', h1, h2, _⟩ := hxx 0 hpos
    have h3 := h2 0 hs0
    rw [List.getElem?_eq_getElem (by omega)] at h3
    have : ((a.add (0 * sz)).add 0) = a := by simp [Addr.add]
    rw [this] at h3
    exact World.cell?_spot h3
  obtain ⟨b, off, spot⟩ := a
  simp only at hspot
  subst hspot
  refine ⟨b, off, rfl, ?_, fun i hi => ?_⟩
  · have hmz : 0 < m * sz := Nat.mul_pos (by omega) hs0
    have := hp (.cell b off) (List.mem_append_left _ (by
      unfold MemPlace.row
      exact List.mem_map.2 ⟨0, List.mem_range.2 hmz, by simp⟩))
    exact this
  · obtain ⟨cs', h1, h2, h3⟩ := hxx i hi
    refine ⟨cs', h1, fun j hj => ?_, h3⟩
    rw [← h2 j hj, Deep.add_add]
    congr 1
    unfold Addr.add
    split <;> simp_all
end
end Go
