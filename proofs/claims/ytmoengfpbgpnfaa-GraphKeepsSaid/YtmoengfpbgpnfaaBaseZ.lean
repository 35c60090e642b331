/- Sizes of nested slices out of a reading's weights. -/
import Derived.Test.YtmoengfpbgpnfaaBaseD
import Derived.SizedLaws
namespace Go
open Go.RowKit Go.ChangeShapes Go.WideShapes
set_option linter.unusedVariables false
section
variable {H : Type} {enc : TypeId × Value → H} {P : Program} {w : World} {held : Bool} {t : TypeId} {fuel : Nat} {cs : List Value} {x : DataW H × List MemPlace}
theorem trod_len_sized {e : TypeId} {ao : Option Addr} {n cap : Nat} (hu : P.underlying t = some (.slice e)) (h : DataW.trod enc P w 0 (fun _ => true) held fuel t [.slice ao n cap] = some x) (hw : ∀ k ∈ x.1.weights P t, k ≤ reachBytes) : n * P.bytesOf e ≤ reachBytes := by
  rcases DataW.trod_slice hu h with ⟨h1, _⟩ | ⟨a, l', c', elems, rest, m, _, h1, h2, _, h3, _, h4, h5, _⟩
  · simp at h1
    obtain ⟨_, rfl, _⟩ := h1
    simp
  · simp at h1
    obtain ⟨rfl, rfl, rfl⟩ := h1
    have := hw ((elems.length + rest.length) * P.bytesOf e) (by rw [h2]; simp [DataW.weights, hu])
    rw [h4] at this
    exact Nat.le_trans (Nat.mul_le_mul_right _ (Nat.le_add_right _ _)) this
theorem part_sized {fs : Array Field} {parts : List (DataW H)} {j : Nat} {f : Field} {d : DataW H} (hu : P.underlying t = some (.struct fs)) (hj : fs[j]? = some f) (hd : parts[j]? = some d) (hw : ∀ k ∈ (DataW.agg parts).weights P t, k ≤ reachBytes) : ∀ k ∈ d.weights P f.type, k ≤ reachBytes := fun k hk => by
  refine hw k ?_
  simp only [DataW.weights, hu]
  exact DataW.weights_mem_each (j := j) (by simp [hj]) hd k hk
theorem weightsAll_mem {e : TypeId} : ∀ {ds : List (DataW H)} {d : DataW H}, d ∈ ds → ∀ k ∈ d.weights P e, k ∈ DataW.weightsAll P e ds
  | d0 :: r, d, hd, k, hk => by
    simp only [DataW.weightsAll, List.mem_append]
    rcases List.mem_cons.1 hd with rfl | h
    · exact .inl hk
    · exact .inr (weightsAll_mem h k hk)
theorem elem_sized {e : TypeId} {elems sp : List (DataW H)} (hu : P.underlying t = some (.slice e)) (hw : ∀ k ∈ (DataW.slice elems sp).weights P t, k ≤ reachBytes) : ∀ d ∈ elems, ∀ k ∈ d.weights P e, k ≤ reachBytes := fun d hd k hk => by
  refine hw k ?_
  simp only [DataW.weights, hu, List.mem_cons, List.mem_append]
  exact .inr (.inl (weightsAll_mem hd k hk))
theorem SlA.of_trodW {α : Type} {B sz : Nat} {E : World → List Value → α → Prop} {e : TypeId} {Wt : DataW H → Prop} (ht : P.underlying t = some (.slice e)) (hsz : P.cellsOf e = sz) (hs0 : 0 < sz)
    (h : DataW.trod enc P w 0 (fun _ => true) held fuel t cs = some x) (hp : ∀ p ∈ x.2, p.block < B) (hW : ∀ elems sp, x.1 = .slice elems sp → ∀ d ∈ elems, Wt d)
    (hE : ∀ n cs y, DataW.trod enc P w 0 (fun _ => true) held n e cs = some y → (∀ p ∈ y.2, p.block < B) → Wt y.1 → ∃ a, E w cs a) :
    ∃ ao cap xs, cs = [.slice ao xs.length cap] ∧ SlA B sz E w ao cap xs := by
  rcases DataW.trod_slice ht h with ⟨rfl, rfl⟩ | ⟨a, len, cap, elems, rest, n, _, rfl, hx, _, hl, hm, hel, hx1, _, _⟩
  · exact ⟨none, 0, [], rfl, SlA.nil _ _ _ _⟩
  subst hx
  dsimp only at hp hW
  rw [hsz] at hx1 hp
  have hall : ∀ i, i < len → ∃ y : α, ∃ cs' : List Value, cs'.length = sz ∧ (∀ j, j < sz → w.cell? ((a.add (i * sz)).add j) = cs'[j]?) ∧ E w cs' y := by
    intro i hi
    have hie : i < elems.length := by omega
    have h0 := hx1 i hi
    rw [List.getElem?_eq_getElem hie] at h0
    obtain ⟨cs', h1, h2⟩ := Option.bind_eq_some_iff.1 h0
    obtain ⟨_, h3, h4⟩ := World.cells?_some h1
    obtain ⟨y, hy⟩ := hE _ _ _ h2 (fun p hp' => hp p (List.mem_append_right _ (List.mem_flatMap.2 ⟨elems[i], List.mem_append_left _ (List.getElem_mem hie), hp'⟩))) (hW _ _ rfl _ (List.mem_map.2 ⟨_, List.getElem_mem hie, rfl⟩))
    exact ⟨y, cs', h3, h4, hy⟩
  obtain ⟨xs, hxl, hxx⟩ := list_of_all hall
  subst hxl
  refine ⟨some a, cap, xs, rfl, hl, hm, (by simp), fun hne => ?_⟩
  have hpos : 0 < xs.length := List.length_pos_iff.2 hne
  have hspot : a.spot = none := by
    obtain ⟨cs', h1, h2, _⟩ := hxx 0 hpos
    have h3 := h2 0 hs0
    rw [List.getElem?_eq_getElem (by omega)] at h3
    have : ((a.add (0 * sz)).add 0) = a := by simp [Addr.add]
    rw [this] at h3
    exact World.cell?_spot h3
  obtain ⟨b, off, spot⟩ := a
  simp only at hspot
  subst hspot
  refine ⟨b, off, rfl, ?_, fun i hi => ?_⟩
  · have hmz : 0 < (elems.length + rest.length) * sz := Nat.mul_pos (by omega) hs0
    have := hp (.cell b off) (List.mem_append_left _ (by
      unfold MemPlace.row
      exact List.mem_map.2 ⟨0, List.mem_range.2 hmz, by simp⟩))
    exact this
  · obtain ⟨cs', h1, h2, h3⟩ := hxx i hi
    refine ⟨cs', h1, fun j hj => ?_, h3⟩
    rw [← h2 j hj, Deep.add_add]
    congr 1
    unfold Addr.add
    split <;> simp_all
end
end Go
