/- Progress: a tracker held against its model (alike). -/
import Derived.Test.YtjmbafcpbagpdaaPt
namespace Go.Proofs.Ytjmbafcpbagpdaa
open Go.RowKit Go.Shelf Go.Maps
attribute [local go_sem] Oper.semAt_some
set_option linter.unusedVariables false
set_option linter.unusedSimpArgs false

theorem prefix_snoc {α : Type} {a L : List α} {x : α} (h : a <+: L) (hk : a.length < L.length) (hx : L[a.length] = x) : a ++ [x] <+: L := by
  obtain ⟨t, rfl⟩ := h
  cases t with
  | nil => simp at hk
  | cons y t =>
    simp at hx
    subst hx
    exact ⟨t, by simp⟩
end Go.Proofs.Ytjmbafcpbagpdaa
