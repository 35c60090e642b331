/- Progress: a tracker held against its model (alike). -/
import Derived.Test.YtjmbafcpbagpdaaGreatPt
namespace Go.Proofs.YtjmbafcpbagpdaaGreat
open Go.RowKit Go.Shelf Go.Maps
attribute [local go_sem] Oper.semAt_some
set_option linter.unusedVariables false
set_option linter.unusedSimpArgs false

/-- The boxes of alike: the tracker's, the model's, most, the result, n. -/
def alBox (B tb mk : Nat) (most : Int) (k : Nat) : List (Nat × Value × TypeId) :=
  [(B, .pointer (some ⟨tb, 0, none⟩), 61), (B + 1, .pointer (some ⟨mk, 0, none⟩), 100), (B + 2, .int .i64 most, 3), (B + 3, .bool false, 4), (B + 4, .int .i64 k, 3)]
theorem prefix_snoc {α : Type} {a L : List α} {x : α} (h : a <+: L) (hk : a.length < L.length) (hx : L[a.length] = x) : a ++ [x] <+: L := by
  obtain ⟨t, rfl⟩ := h
  cases t with
  | nil => simp at hk
  | cons y t =>
    simp at hx
    subst hx
    exact ⟨t, by simp⟩
/-- Between two rounds. -/
def AlI (w w1 : World) (tb mk : Nat) (most : Int) {cs : List (TStamp × Int)} (L : List TCount) (pre : List (CountOf cs)) (W : World) : Prop :=
  Hd (alBox w.heap.size tb mk most pre.length) W ∧ pre.map (·.1) <+: L ∧ Below w.heap.size w W ∧ w1.heap.size ≤ W.heap.size
theorem AlI.own {w w1 : World} {tb mk : Nat} {most : Int} {cs : List (TStamp × Int)} {L : List TCount} (hw : w.heap.size ≤ w1.heap.size) : OwnFrom w1.heap.size (AlI (cs := cs) w w1 tb mk most L) := by
  rintro s X Y row ⟨h1, h2, h3, h4⟩ hg hr
  exact ⟨h1.grown hg (fun r e => (hr r e).2), h2, h3.grown hg h3.size (fun g e => by have := (hr g e).1; omega), Nat.le_trans h4 hg.size⟩

end Go.Proofs.YtjmbafcpbagpdaaGreat
