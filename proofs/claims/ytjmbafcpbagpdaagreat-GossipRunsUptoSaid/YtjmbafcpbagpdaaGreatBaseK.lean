/- slices.SortFunc at a row of the call's own: what the row holds behind it. -/
import Derived.Test.YtjmbafcpbagpdaaGreatL1
import Derived.Shelf.SlSortCmp.WholeK
namespace Go
open Go.RowKit Go.Sort Go.Proofs

section
variable {α : Type} [Inhabited α] {enc : α → List Value} {k : Nat} {w : World} {base : Nat} {e : TypeId}

theorem flatK_list (hk : ∀ x, (enc x).length = k) (hk0 : 0 < k) (xs : List α) (t : Nat) (ht : t < xs.length * k) : (xs.flatMap enc)[t]? = some (flatK enc k xs.toArray)[t]! := by
  have h1 : t / k < xs.length := by rw [Nat.div_lt_iff_lt_mul hk0]; exact ht
  have h2 : t % k < k := Nat.mod_lt _ hk0
  rw [get_flatK _ _ _ _ (by simpa using ht)]
  have h3 := flat_at hk xs (t / k) (t % k) h1 h2
  rw [show t / k * k + t % k = t from Nat.div_add_mod' t k] at h3
  rw [h3]
  simp only [List.getElem!_toArray]
  rw [getElem!_pos xs _ h1, List.getElem?_eq_getElem (by rw [hk]; exact h2), getElem!_pos (enc _) _ (by rw [hk]; exact h2)]

theorem OwnL.holds {g cap : Nat} {xs : List α} (h : OwnL enc w base e k (.slice (some ⟨g, 0, none⟩) xs.length cap) xs) (hk : ∀ x, (enc x).length = k) (hk0 : 0 < k) : HoldsK enc k w g 0 xs.toArray := by
  intro j hj
  have hj' : j < xs.length * k := by simpa using hj
  rw [Nat.zero_add]
  refine ⟨?_, World.ownsRow.frozenAt h j⟩
  rw [World.ownsRow.cellAt h j hj', flatK_list hk hk0 xs j hj']
  rfl

theorem OwnL.sorted {g cap n : Nat} {xs : List α} {d' : Array α} {os : Array Obj} (h : OwnL enc w base e k (.slice (some ⟨g, 0, none⟩) xs.length cap) xs) (hk : ∀ x, (enc x).length = k) (hk0 : 0 < k) (hd : d'.size = xs.length) :
    OwnL enc (sortWorldK enc k w g 0 n d' os) base e k (.slice (some ⟨g, 0, none⟩) xs.length cap) d'.toList ∧ w.grownBy (sortWorldK enc k w g 0 n d' os) (some g) := by
  rcases h.form with ⟨h1, _⟩ | ⟨g', cap', cells, h1, h2, h3, h4, h5, h6, h7, h8⟩
  · cases h1
  · simp only [Value.slice.injEq, Option.some.injEq, Addr.mk.injEq, and_true, true_and] at h1
    obtain ⟨rfl, rfl⟩ := h1
    have hsz : (putRowK enc k (Sort.ahead w n) g 0 d').heap.size = w.heap.size := by simp [putRowK]
    have hblk : (sortWorldK enc k w g 0 n d' os).heap[g]? = some (.cells (putCells id 0 (flatK enc k d') cells) e (0, 0)) := by
      unfold sortWorldK
      rw [heap_grow_old _ _ (by rw [hsz]; exact h7)]
      unfold putRowK putRow mapBlock
      have h2' : w.heap[g]? = some (.cells cells e (0, 0)) := h2
      simp only [heap_ahead, Array.getElem?_modify, if_true, h2', Option.map_some, onCells]
    refine ⟨⟨by rw [flat_len hk], .inr ⟨g, cap, _, ?_, h6, hblk, ?_, h4, ?_, ?_⟩⟩, ?_⟩
    · simp [hd]
    · simpa [hd] using h3
    · simpa [putCells] using h5
    · apply List.ext_getElem?
      intro t
      rw [List.getElem?_take]
      by_cases ht : t < d'.toList.length * k
      · have ht2 : t < cells.size := by
          rw [h5]
          refine Nat.lt_of_lt_of_le ht (Nat.mul_le_mul_right _ ?_)
          simpa [hd] using h3
        rw [if_pos ht, flatK_list hk hk0 d'.toList t ht]
        simp only [putCells, Array.getElem?_toList, Array.getElem?_mapIdx, Array.getElem?_eq_getElem ht2, Option.map_some]
        rw [if_pos ⟨Nat.zero_le _, by simpa using ht⟩]
        simp
      · rw [if_neg ht, List.getElem?_eq_none (by rw [flat_len hk]; omega)]
    · refine ⟨rfl, rfl, rfl, by unfold sortWorldK; simp [hsz], fun i hi hne => ?_⟩
      unfold sortWorldK
      rw [heap_grow_old _ _ (by rw [hsz]; exact hi)]
      unfold putRowK putRow mapBlock
      simp only [heap_ahead, Array.getElem?_modify]
      rw [if_neg (fun e => hne (by rw [e]))]

theorem perm_of_permIn {d d' : Array α} (h : PermIn 0 d.size d d') : d'.toList.Perm d.toList := by
  have h3 := h.2.2
  rw [Array.extract_eq_self_of_le (by rw [h.1]; exact Nat.le_refl _), Array.extract_eq_self_of_le (Nat.le_refl _)] at h3
  exact h3
theorem pairwise_of_sortedIn {lt : α → α → Bool} {d' : Array α} (h : SortedIn lt 0 d'.size d') : d'.toList.Pairwise fun a b => lt b a = false := by
  rw [List.pairwise_iff_getElem]
  intro i j hi hj hij
  have := h i j (Nat.zero_le _) hij (by simpa using hj)
  rw [getElem!_pos d' i (by simpa using hi), getElem!_pos d' j (by simpa using hj)] at this
  simpa using this
end
end Go
