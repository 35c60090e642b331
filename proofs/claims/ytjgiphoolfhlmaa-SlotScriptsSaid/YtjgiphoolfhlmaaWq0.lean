/- Wire: helpers: lengths, blocks made here, worlds by name. -/
import Derived.Test.YtjgiphoolfhlmaaWn0
namespace Go.Proofs.Ytjgiphoolfhlmaa
open Go.RowKit
set_option linter.unusedVariables false

mutual
theorem chkI_long : ∀ (x : Itm) (d c : Nat), okI x = true → (chkI x d c).2 = 0 ∨ (chkI x d c).2 = 2
  | .mk k n s l, d, c, h => by
    rw [okI, Bool.and_eq_true] at h
    rw [chkI]
    simp only [h.1, Bool.not_true, Bool.false_eq_true, if_false]
    by_cases hc : 4096 < c + 1 ∨ 8 < d
    · rw [if_pos hc]; exact .inr rfl
    · rw [if_neg hc]; exact chkL_long l _ _ h.2
theorem chkL_long : ∀ (l : List Itm) (d c : Nat), okL l = true → (chkL l d c).2 = 0 ∨ (chkL l d c).2 = 2
  | [], d, c, h => by rw [chkL]; exact .inl rfl
  | x :: r, d, c, h => by
    rw [okL, Bool.and_eq_true] at h
    rw [chkL]
    by_cases he : (chkI x d c).2 = 0
    · rw [if_pos he]; exact chkL_long r _ _ h.2
    · rw [if_neg he]; exact chkI_long x d c h.1
end
theorem encV_ok {l : List Itm} (h : (encV l).1 = 0) : encV l = (0, encL l) ∧ okL l = true := by
  unfold encV at h ⊢
  by_cases h1 : (chkL l 1 0).2 = 0
  · rw [if_neg (by simpa using h1)] at h ⊢
    by_cases h2 : 65536 < sizL l ∨ 65536 < (encL l).length
    · rw [if_pos h2] at h; simp at h
    · rw [if_neg h2]; exact ⟨rfl, (chkL_ok l 1 0 h1).1⟩
  · rw [if_pos h1] at h; exact absurd h h1
theorem okL_append (a b : List Itm) : okL (a ++ b) = (okL a && okL b) := by
  induction a with
  | nil => rw [List.nil_append, okL, Bool.true_and]
  | cons x r ih => rw [List.cons_append, okL, okL, ih, Bool.and_assoc]
theorem encV_len (l : List Itm) : (encV l).2.length ≤ 65536 := by
  unfold encV
  split
  · simp
  · split
    · simp
    · show (encL l).length ≤ 65536
      omega

/-- A row made here is a row of the call's own. -/
theorem OwnL.of_blk {α : Type} {enc : α → List Value} {w : World} {base g cap size : Nat} {e : TypeId} {cells : Array Value} {xs : List α} (h : Blk w g cells e) (hb : base ≤ g) (h1 : xs.length ≤ cap) (h2 : cap ≤ maxLen) (h3 : cells.size = cap * size)
    (h4 : cells.toList.take (xs.length * size) = xs.flatMap enc) (hk : (xs.flatMap enc).length = xs.length * size) : OwnL enc w base e size (.slice (some ⟨g, 0, none⟩) xs.length cap) xs :=
  ⟨hk, .inr ⟨g, cap, cells, rfl, hb, h, h1, h2, h3, h4⟩⟩

theorem blk4 {w : World} {b : Nat} {c0 c1 c2 c3 : Value} {T : TypeId} (h : Blk w b #[c0, c1, c2, c3] T) : w.cell? ⟨b, 0, none⟩ = some c0 ∧ w.cell? ⟨b, 1, none⟩ = some c1 ∧ w.cell? ⟨b, 2, none⟩ = some c2 ∧ w.cell? ⟨b, 3, none⟩ = some c3 :=
  ⟨h.cellAt rfl, h.cellAt rfl, h.cellAt rfl, h.cellAt rfl⟩
theorem blk_new1 (w : World) (o : Obj) (cs : Array Value) (T : TypeId) : Blk ((w.alloc o).alloc (.cells cs T)) (w.heap.size + 1) cs T := by
  have := Blk.new (w.alloc o) cs T
  simpa using this
theorem blk_new2 (w : World) (o o2 : Obj) (cs : Array Value) (T : TypeId) : Blk (((w.alloc o).alloc o2).alloc (.cells cs T)) (w.heap.size + 1 + 1) cs T := by
  have := Blk.new ((w.alloc o).alloc o2) cs T
  simpa using this
theorem below_alloc1 (w : World) (o : Obj) : Below w.heap.size w (w.alloc o) := Below.alloc (Below.refl _ _) (Nat.le_refl _) _
theorem below_alloc2 (w : World) (o o2 : Obj) : Below w.heap.size w ((w.alloc o).alloc o2) := Below.alloc (below_alloc1 w o) (by simp) _
theorem below_alloc3 (w : World) (o o2 o3 : Obj) : Below w.heap.size w (((w.alloc o).alloc o2).alloc o3) := Below.alloc (below_alloc2 w o o2) (by simp; omega) _
theorem Calls.world {P : Program} {f : FuncId} {args : Array Value} {W : World} {Q : Ending → World → Prop} (h : ∀ w1, w1 = W → Calls P f args w1 Q) : Calls P f args W Q := h _ rfl
theorem wpList_world {P : Program} {ops : Array Oper} {r : List Oper} {a : Act} {W : World} {Q : Exit → Act → World → Prop} (h : ∀ w1, w1 = W → wpList P ops Q r a w1) : wpList P ops Q r a W := h _ rfl
theorem RIt.one0 {d B : Nat} {w : World} {n : Int} (h : (Lit.int .i64 n).wf = true) : RIt (d + 1) B w (encP ⟨.mk 0 n ⟨#[]⟩ [], none, 0⟩) (.mk 0 n ⟨#[]⟩ []) := RIt.mk' rfl h (by decide) (RIts.nil _ _ _)
theorem RIt.one1 {d B : Nat} {w : World} {s : ByteArray} (h : s.size ≤ 140737488351232) : RIt (d + 1) B w (encP ⟨.mk 1 0 s [], none, 0⟩) (.mk 1 0 s []) := RIt.mk' rfl rfl h (RIts.nil _ _ _)
theorem RIt.one2 {d B : Nat} {w : World} {ao : Option Addr} {cap : Nat} {l : List Itm} (h : RIts d B w ao cap l) : RIt (d + 1) B w (encP ⟨.mk 2 0 ⟨#[]⟩ l, ao, cap⟩) (.mk 2 0 ⟨#[]⟩ l) := RIt.mk' rfl rfl (by decide) h

end Go.Proofs.Ytjgiphoolfhlmaa
