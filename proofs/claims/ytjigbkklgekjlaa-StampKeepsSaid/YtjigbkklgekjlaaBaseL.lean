/- How a row of the call's own grows by appends; append of one element, with the place told. -/
import Derived.Test.YtjigbkklgekjlaaBaseJ
import Derived.Deep.AppendLies
namespace Go
open Go.RowKit

/-- From (w0, v0) to (w, v): only v0's block and new ones have turned; v lies in v0's block or in a new one. -/
structure Grew (w0 : World) (v0 : Value) (w : World) (v : Value) : Prop where
  grown : w0.grownBy w v0.ownBlock
  place : v.ownBlock = v0.ownBlock ∨ ∃ g, v.ownBlock = some g ∧ w0.heap.size ≤ g

namespace Grew
variable {w0 w w' : World} {v0 v v' : Value}
theorem refl (w : World) (v : Value) : Grew w v w v := ⟨⟨rfl, rfl, rfl, Nat.le_refl _, fun _ _ _ => rfl⟩, .inl rfl⟩
theorem trans (h : Grew w0 v0 w v) (k : Grew w v w' v') : Grew w0 v0 w' v' := by
  have hs := h.grown.size
  refine ⟨⟨k.grown.os.trans h.grown.os, k.grown.tape.trans h.grown.tape, k.grown.output.trans h.grown.output, Nat.le_trans hs k.grown.size, fun i hi hne => ?_⟩, ?_⟩
  · refine (k.grown.block i (by omega) ?_).trans (h.grown.block i hi hne)
    rcases h.place with e | ⟨g, e, hg⟩
    · rw [e]; exact hne
    · rw [e]; intro e2; cases e2; omega
  · rcases k.place with e | ⟨g, e, hg⟩
    · rw [e]; exact h.place
    · exact .inr ⟨g, e, by omega⟩
theorem drewN (h : Grew w0 v0 w v) (n : Nat) : Grew w0 v0 (w.drewN n) v := ⟨⟨h.grown.os, h.grown.tape, h.grown.output, h.grown.size, h.grown.block⟩, h.place⟩
theorem drew (h : Grew w0 v0 w v) : Grew w0 v0 w.drew v := ⟨⟨h.grown.os, h.grown.tape, h.grown.output, h.grown.size, h.grown.block⟩, h.place⟩
/-- What is not v0's block stays. -/
theorem cell (h : Grew w0 v0 w v) {b o : Nat} (hb : b < w0.heap.size) (hne : v0.ownBlock ≠ some b) : w.cell? ⟨b, o, none⟩ = w0.cell? ⟨b, o, none⟩ := World.cell?_of_block (w := w0) (a := ⟨b, o, none⟩) (h.grown.block b hb (Ne.symm hne))
theorem blk (h : Grew w0 v0 w v) {b : Nat} {cs : Array Value} {T : TypeId} (hb : Blk w0 b cs T) (hne : v0.ownBlock ≠ some b) : Blk w b cs T := by
  have := hb.lt
  unfold Blk at *
  rw [h.grown.block b this (Ne.symm hne), hb]
theorem below (h : Grew w0 v0 w v) {B : Nat} (hB : B ≤ w0.heap.size) (hv : ∀ g, v0.ownBlock = some g → B ≤ g) : Below B w0 w := (Below.refl B w0).grown h.grown hB (fun k hk => hv k hk)
/-- A step of another kind ahead of it, all else at hand being new. -/
theorem of_below (h : Below w0.heap.size w0 w) (v : Value) : Grew w0 v w v := ⟨⟨h.os, h.tape, h.output, h.size, fun i hi _ => h.block i hi⟩, .inl rfl⟩
end Grew

section
variable {α : Type} {enc : α → List Value} {size : Nat} {base : Nat} {e : TypeId} {v : Value} {xs : List α}

theorem OwnL.lt {w : World} (h : OwnL enc w base e size v xs) : ∀ g, v.ownBlock = some g → base ≤ g ∧ g < w.heap.size := World.ownsRow.lt h
theorem OwnL.ne_blk {w : World} {b : Nat} {cs : Array Value} {T : TypeId} (h : OwnL enc w base e size v xs) (hb : Blk w b cs T) (hT : e ≠ T) : v.ownBlock ≠ some b := by
  rcases h.form with ⟨rfl, _⟩ | ⟨g, cap, cells, rfl, h2, _⟩
  · simp [Value.ownBlock]
  · intro he
    simp only [Value.ownBlock, Option.some.injEq] at he
    subst he
    unfold Blk at h2 hb
    rw [h2] at hb
    simp only [Option.some.injEq, Obj.cells.injEq] at hb
    exact hT hb.2.1

theorem wpList_app1g {P : Program} {W : World} {ops : Array Oper} {rest : List Oper} {o : Oper} {a : Act} {Q : Exit → Act → World → Prop} (hgd : o.guard = none) (s x : Operand) (t : TypeId)
    (ho : o.op = .call { callee := .builtin .append, args := #[s, x], argTypes := #[t, t] })
    {i : TypeInfo} {z : Value} {bytes : Nat} (ht : P.underlying t = some (.slice e)) (hi : P.info? e = some i) (hz : i.zero = some z)
    (hsize : i.size = size) (hby : i.bytes = bytes) (hzs : z.cells.size = size) (hsz : 0 < size)
    (y : α) {T : TypeId} (hs : a.eval s = v) (hown : OwnL enc W base e size v xs) (hx : a.eval x = .slice (some ⟨W.heap.size, 0, none⟩) 1 1)
    (hk : (enc y).length = size) (h1 : ∀ u ∈ enc y, u.oneCell' = true) (hbd : (xs.length + 1) * bytes ≤ 140737488355328) (hn : xs.length + 1 ≤ maxLen) (hbase : base ≤ W.heap.size)
    (h : ∀ g cap w', OwnL enc w' base e size (.slice (some ⟨g, 0, none⟩) (xs.length + 1) cap) (xs ++ [y]) → Grew W v w' (.slice (some ⟨g, 0, none⟩) (xs.length + 1) cap) → wpList P ops Q rest (a.put o.dst (.slice (some ⟨g, 0, none⟩) (xs.length + 1) cap)) w') :
    wpList P ops Q (o :: rest) a (W.alloc (.cells (enc y).toArray T)) := by
  refine wpList_append_own_at (W.alloc (.cells (enc y).toArray T)) hgd s x t ho base e i z size bytes ht hi hz hsize hby hzs hsz v xs.length (xs.flatMap enc) hs (World.ownsRow.alloc hown _) ⟨W.heap.size, 0, none⟩ 1 1 (enc y) hx (by simpa using hk) ?_ h1 hn hbd (by simp; omega) ?_
  · intro j u hj
    have hb := Blk.new W (enc y).toArray T
    have : (⟨W.heap.size, 0, none⟩ : Addr).add j = ⟨W.heap.size, j, none⟩ := by unfold Addr.add; split <;> simp_all
    rw [this, hb.cell]
    simpa using hj
  · intro v' w' h2 h3 h4 h6
    have hg : W.grownBy w' v.ownBlock := (World.grownBy_alloc W _ v.ownBlock).trans h3
    have hne : v' ≠ .slice none 0 0 := fun hv => absurd (h4.1 hv).2 (by omega)
    have h5 : OwnL enc w' base e size v' (xs ++ [y]) := by
      unfold OwnL
      rw [flat_snoc, List.length_append]
      exact h2
    rcases h5.form with ⟨hv, _⟩ | ⟨g, cap, cells, hv, _⟩
    · exact absurd hv hne
    · rw [List.length_append, List.length_singleton] at hv
      rw [hv] at h5 h6 ⊢
      refine h g cap w' h5 ⟨hg, ?_⟩
      rcases h6 with e6 | e6
      · exact .inl e6
      · exact .inr ⟨g, rfl, by simp [Value.ownBlock] at e6; omega⟩
end
end Go
