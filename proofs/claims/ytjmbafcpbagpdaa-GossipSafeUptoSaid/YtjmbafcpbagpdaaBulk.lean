/- What the bound of an '..UptoSaid' gives for an argument that is a slice. -/
import Derived.Test.YtjmbafcpbagpdaaRows
import Derived.ChangeArms
import Derived.WalkKit
namespace Go.Proofs.Ytjmbafcpbagpdaa

theorem bulk_length {H : Type} (l : List (DataW H)) : l.length ≤ Rows.uptoBulkAll l := by
  induction l with
  | nil => simp [Rows.uptoBulkAll]
  | cons x r ih =>
    have : 1 ≤ Rows.uptoBulk x := by
      cases x with
      | lit l => cases l <;> simp [Rows.uptoBulk]
      | nil => simp [Rows.uptoBulk]
      | ptr d => simp [Rows.uptoBulk]
      | slice elems spare => simp [Rows.uptoBulk]
      | agg parts => simp [Rows.uptoBulk]
      | iface t d => simp [Rows.uptoBulk]
      | map entries => simp [Rows.uptoBulk]
      | held h => simp [Rows.uptoBulk]
    simp only [Rows.uptoBulkAll, List.length_cons]
    omega
theorem bulk_part {H : Type} {d : DataW H} {l : List (DataW H)} (h : d ∈ l) : Rows.uptoBulk d ≤ Rows.uptoBulkAll l := by
  induction l with
  | nil => cases h
  | cons x r ih =>
    simp only [Rows.uptoBulkAll]
    cases List.mem_cons.1 h with
    | inl e => subst e; omega
    | inr e => have := ih e; omega

theorem bulk_slice {H : Type} {enc : TypeId × Value → H} {P : Program} {w : World} {held : Bool} {fuel : Nat} {t e : TypeId} {ao : Option Addr} {len cap : Nat} {d : DataW H} {p : List MemPlace} {ds : List (DataW H)}
    (hk : Rows.uptoSmall H ds = true) (hd : d ∈ ds) (hu : P.underlying t = some (.slice e))
    (h : DataW.trod enc P w 0 (fun _ => true) held fuel t (Value.cells (.slice ao len cap)).toList = some (d, p)) : cap ≤ 1048576 := by
  have hb : Rows.uptoBulkAll ds ≤ 1048576 := of_decide_eq_true hk
  have hp := bulk_part hd
  rcases DataW.trod_slice hu h with ⟨h1, _⟩ | ⟨a, l', c', elems, rest, n, _, h1, h2, _, h3, _, h4, _, h5, _⟩
  · simp [Value.cells] at h1
    obtain ⟨_, _, rfl⟩ := h1
    omega
  · simp [Value.cells] at h1
    obtain ⟨rfl, rfl, rfl⟩ := h1
    simp only [Prod.mk.injEq] at h2
    obtain ⟨rfl, rfl⟩ := h2
    have h6 := (h5 rfl).1
    simp only [Rows.uptoBulk] at hp
    have h7 := bulk_length (elems.map (·.1))
    have h8 := bulk_length (rest.map (·.1))
    rw [List.length_map] at h7 h8
    omega
end Go.Proofs.Ytjmbafcpbagpdaa
