/- A cell of an own row: read, written over. -/
import Derived.Test.YtbianedgogdeeaaL1
import Derived.Test.YtbianedgogdeeaaL8
namespace Go.Proofs.Ytbianedgogdeeaa
open Go.RowKit Go.Maps
set_option linter.unusedVariables false

theorem flat_setX {α : Type} {enc : α → List Value} {size : Nat} (hk : ∀ x, (enc x).length = size) {j : Nat} (hj : j < size) : ∀ (xs : List α) (i : Nat) (hi : i < xs.length) {x' : α} {c : Value}, enc x' = (enc xs[i]).set j c → (xs.set i x').flatMap enc = (xs.flatMap enc).set (i * size + j) c
  | [], i, hi, _, _, _ => absurd hi (Nat.not_lt_zero _)
  | x :: r, 0, hi, x', c, hx => by
    rw [List.set_cons_zero, List.flatMap_cons, List.flatMap_cons, List.set_append_left _ _ (by rw [hk, Nat.zero_mul, Nat.zero_add]; exact hj), Nat.zero_mul, Nat.zero_add]
    rw [show enc x' = (enc x).set j c from hx]
  | x :: r, i + 1, hi, x', c, hx => by
    rw [List.set_cons_succ, List.flatMap_cons, List.flatMap_cons, flat_setX hk hj r i (by simpa using hi) hx, List.set_append_right _ _ (by rw [hk, Nat.succ_mul]; omega)]
    congr 2
    rw [hk, Nat.succ_mul]
    omega
theorem own_setX {α : Type} {enc : α → List Value} {size base g n cap : Nat} {e : TypeId} {w : World} {xs : List α} (h : OwnL enc w base e size (.slice (some ⟨g, 0, none⟩) n cap) xs) (hk : ∀ x, (enc x).length = size) {i j : Nat} (hi : i < xs.length) (hj : j < size) {x' : α} {c : Value} (hx : enc x' = (enc xs[i]).set j c) :
    OwnL enc (w.setCell ⟨g, i * size + j, none⟩ c) base e size (.slice (some ⟨g, 0, none⟩) n cap) (xs.set i x') := by
  rcases h.form with ⟨h1, _⟩ | ⟨g', cap', cells, h1, h2, h3, h4, h5, h6, h7, h8⟩
  · cases h1
  · simp only [Value.slice.injEq, Option.some.injEq, Addr.mk.injEq] at h1
    obtain ⟨⟨rfl, _⟩, rfl, rfl⟩ := h1
    have := ownBlk (enc := enc) (size := size) (xs := xs.set i x') (h2.set (i * size + j) c) h6 (by rw [List.length_set]; exact h3) h4 (by simpa using h5) (by rw [List.length_set, flat_setX hk hj xs i hi hx, ← h8, Array.toList_setIfInBounds, List.take_set]) (flat_len hk _)
    rwa [List.length_set] at this
theorem own_cellX {α : Type} {enc : α → List Value} {size base g n cap : Nat} {e : TypeId} {w : World} {xs : List α} (h : OwnL enc w base e size (.slice (some ⟨g, 0, none⟩) n cap) xs) (hk : ∀ x, (enc x).length = size) {i : Nat} (hi : i < xs.length) : (∀ j, j < size → w.cell? ⟨g, i * size + j, none⟩ = (enc xs[i])[j]?) ∧ ∀ k, w.frozen? ⟨g, k, none⟩ = false := by
  rcases h.form with ⟨h1, _⟩ | ⟨g', cap', cells, h1, h2, h3, h4, h5, h6, h7, h8⟩
  · cases h1
  · simp only [Value.slice.injEq, Option.some.injEq, Addr.mk.injEq] at h1
    obtain ⟨⟨rfl, _⟩, rfl, rfl⟩ := h1
    refine ⟨fun j hj => ?_, fun k => h2.frozen k⟩
    have hm1 : (i + 1) * size ≤ xs.length * size := Nat.mul_le_mul_right size hi
    have hm2 : (i + 1) * size = i * size + size := Nat.succ_mul i size
    rw [h2.cell, ← flat_at hk xs i j hi hj, ← h8, List.getElem?_take, if_pos (by omega)]
    simp
end Go.Proofs.Ytbianedgogdeeaa

/- Two variables of two types whose places float beside calls. -/
namespace Go
open Go.RowKit
set_option linter.unusedVariables false
theorem wp_region_flta2t {P : Program} {Q : Exit → Act → World → Prop} {id : Nat} {a : Act} {w : World} {l : List Oper} (D : Nat → Prop) (S : World → Prop) (n : Nat) (q odd : List Nat) (i i2 n0 : Nat) (cs cs2 : Array Value) (T T2 : TypeId) {o o2 : Oper} (hm : P.follows .mixedOrders = true)
    (hB : Region.fltB .any l.toArray n (pickN l q) odd [i, i2] = true) (ho : l[i]? = some o) (hg : o.guard = none) (ho2 : l[i2]? = some o2) (hg2 : o2.guard = none)
    (hrun : ∀ (a : Act) (w : World), (execOp a.eval o).run P w = .ok (.value (.pointer (some ⟨w.heap.size, 0, none⟩))) (w.alloc (.cells cs T)))
    (hrun2 : ∀ (a : Act) (w : World), (execOp a.eval o2).run P w = .ok (.value (.pointer (some ⟨w.heap.size, 0, none⟩))) (w.alloc (.cells cs2 T2)))
    (hQ : ∀ d c a v w, Q (.panic c) (Act.put a d v) w → Q (.panic c) a w) (hQ2 : ∀ d c a v w, Q (.panic c) a w → Q (.panic c) (Act.put a d v) w)
    (hD : ∀ k, D k → k < n0) (hS0 : ∀ w, S w → n0 ≤ w.heap.size) (hSa : ∀ w, S w → S (w.alloc (.cells cs T))) (hSa2 : ∀ w, S w → S (w.alloc (.cells cs2 T2))) (hS : S w.drew)
    (h : S w.drew → wpMidF P l.toArray Q (fun w w' => Below w.heap.size w w') (Chg D) S odd (fun a' w' => ∀ pb pc w1, Below w'.heap.size w' w1 → n0 ≤ pb → n0 ≤ pc → Blk w1 pb cs T → Blk w1 pc cs2 T2 → wpList P l.toArray Q (l.drop n) ((a'.put o.dst (.pointer (some ⟨pb, 0, none⟩))).put o2.dst (.pointer (some ⟨pc, 0, none⟩))) w1) (pickN l q) a w.drew) :
    (Code.region id l.toArray true).wp P Q a w := by
  refine wp_region_flt (fun w w' => Below w.heap.size w w') (Chg D) FOld S n q odd [⟨i, o, FAlloc n0 cs T⟩, ⟨i2, o2, FAlloc n0 cs2 T2⟩] hm hB (fun f hf => by simp only [List.mem_cons, List.not_mem_nil, or_false] at hf; rcases hf with rfl | rfl <;> assumption) (fun w => Below.refl _ _) (fun a b c h k => Below.trans h (Below.mono k h.size)) hQ hQ2
    (fun u w w' hb hu b off s e => Nat.lt_of_lt_of_le (hu b off s e) hb.size) (fun u w w' hb hu b off s e => Nat.lt_of_lt_of_le (hu b off s e) hb.size) (fun f hf => ?_) hS (fun hS' => ?_)
  · have key : f.V = FAlloc n0 cs T ∨ f.V = FAlloc n0 cs2 T2 := by
      simp only [List.mem_cons, List.not_mem_nil, or_false] at hf
      rcases hf with rfl | rfl
      · exact .inl rfl
      · exact .inr rfl
    refine ⟨?_, ?_, ?_⟩
    · simp only [List.mem_cons, List.not_mem_nil, or_false] at hf
      rcases hf with rfl | rfl
      · exact fltOk_alloc (by simpa using ho) hg rfl hrun hS0 hSa
      · exact fltOk_alloc (by simpa using ho2) hg2 rfl hrun2 hS0 hSa2
    · rcases key with key | key <;> rw [key]
      · rintro v w w' hb ⟨b, rfl, h1, h2⟩
        exact ⟨b, rfl, h1, h2.below hb h2.lt⟩
      · rintro v w w' hb ⟨b, rfl, h1, h2⟩
        exact ⟨b, rfl, h1, h2.below hb h2.lt⟩
    · rcases key with key | key <;> rw [key]
      · rintro v w w' hb ⟨b, rfl, h1, h2⟩
        exact ⟨b, rfl, h1, h2.chg hb (fun hd => by have := hD b hd; omega)⟩
      · rintro v w w' hb ⟨b, rfl, h1, h2⟩
        exact ⟨b, rfl, h1, h2.chg hb (fun hd => by have := hD b hd; omega)⟩
  · refine wpMidF.mono (fun a' w' hL => ?_) (h hS')
    rintro v w1 hb ⟨b, rfl, h1, h2⟩ _ v2 w2 hb2 ⟨c, rfl, h3, h4⟩ hne
    exact hL b c w2 (hb.trans (hb2.mono hb.size)) h1 h3 (h2.below hb2 h2.lt) h4
end Go
