/- Regions with two floating allocs. -/
import Derived.Test.YtjigbkklgekjlaaBaseS
namespace Go
open Go.RowKit
set_option linter.unusedVariables false
theorem wp_region_flta2 {P : Program} {Q : Exit → Act → World → Prop} {id : Nat} {a : Act} {w : World} {l : List Oper} (D : Nat → Prop) (S : World → Prop) (n : Nat) (q odd : List Nat) (i i2 n0 : Nat) (cs : Array Value) (T : TypeId) {o o2 : Oper} (hm : P.follows .mixedOrders = true)
    (hB : Region.fltB .any l.toArray n (pickN l q) odd [i, i2] = true) (ho : l[i]? = some o) (hg : o.guard = none) (ho2 : l[i2]? = some o2) (hg2 : o2.guard = none)
    (hrun : ∀ (a : Act) (w : World), (execOp a.eval o).run P w = .ok (.value (.pointer (some ⟨w.heap.size, 0, none⟩))) (w.alloc (.cells cs T)))
    (hrun2 : ∀ (a : Act) (w : World), (execOp a.eval o2).run P w = .ok (.value (.pointer (some ⟨w.heap.size, 0, none⟩))) (w.alloc (.cells cs T)))
    (hQ : ∀ d c a v w, Q (.panic c) (Act.put a d v) w → Q (.panic c) a w) (hQ2 : ∀ d c a v w, Q (.panic c) a w → Q (.panic c) (Act.put a d v) w)
    (hD : ∀ k, D k → k < n0) (hS0 : ∀ w, S w → n0 ≤ w.heap.size) (hSa : ∀ w, S w → S (w.alloc (.cells cs T))) (hS : S w.drew)
    (h : S w.drew → wpMidF P l.toArray Q (fun w w' => Below w.heap.size w w') (Chg D) S odd (fun a' w' => ∀ pb pc w1, Below w'.heap.size w' w1 → n0 ≤ pb → n0 ≤ pc → pb ≠ pc → Blk w1 pb cs T → Blk w1 pc cs T → wpList P l.toArray Q (l.drop n) ((a'.put o.dst (.pointer (some ⟨pb, 0, none⟩))).put o2.dst (.pointer (some ⟨pc, 0, none⟩))) w1) (pickN l q) a w.drew) :
    (Code.region id l.toArray true).wp P Q a w := by
  refine wp_region_flt (fun w w' => Below w.heap.size w w') (Chg D) FOld S n q odd [⟨i, o, FAlloc n0 cs T⟩, ⟨i2, o2, FAlloc n0 cs T⟩] hm hB (fun f hf => by simp only [List.mem_cons, List.not_mem_nil, or_false] at hf; rcases hf with rfl | rfl <;> assumption) (fun w => Below.refl _ _) (fun a b c h k => Below.trans h (Below.mono k h.size)) hQ hQ2
    (fun u w w' hb hu b off s e => Nat.lt_of_lt_of_le (hu b off s e) hb.size) (fun u w w' hb hu b off s e => Nat.lt_of_lt_of_le (hu b off s e) hb.size) (fun f hf => ?_) hS (fun hS' => ?_)
  · have key : f.V = FAlloc n0 cs T := by simp only [List.mem_cons, List.not_mem_nil, or_false] at hf; rcases hf with rfl | rfl <;> rfl
    refine ⟨?_, ?_, ?_⟩
    · simp only [List.mem_cons, List.not_mem_nil, or_false] at hf
      rcases hf with rfl | rfl
      · exact fltOk_alloc (by simpa using ho) hg rfl hrun hS0 hSa
      · exact fltOk_alloc (by simpa using ho2) hg2 rfl hrun2 hS0 hSa
    · rw [key]
      rintro v w w' hb ⟨b, rfl, h1, h2⟩
      exact ⟨b, rfl, h1, h2.below hb h2.lt⟩
    · rw [key]
      rintro v w w' hb ⟨b, rfl, h1, h2⟩
      exact ⟨b, rfl, h1, h2.chg hb (fun hd => by have := hD b hd; omega)⟩
  · refine wpMidF.mono (fun a' w' hL => ?_) (h hS')
    rintro v w1 hb ⟨b, rfl, h1, h2⟩ _ v2 w2 hb2 ⟨c, rfl, h3, h4⟩ hne
    refine hL b c w2 (hb.trans (hb2.mono hb.size)) h1 h3 (fun e => hne (.pointer (some ⟨b, 0, none⟩)) (by simp) (by rw [e])) (h2.below hb2 h2.lt) h4
end Go
