/- The reach of an argument that is a slice, by its capacity. -/
import Derived.SizedLaws
import Derived.ChangeArms
namespace Go
theorem slice_sized {H : Type} {enc : TypeId × Value → H} {P : Program} {w : World} {held : Bool} {fuel : Nat} {t e : TypeId} {ao : Option Addr} {len cap : Nat} {d : DataW H} {p : List MemPlace} {ts : List TypeId} {ds : List (DataW H)} {j : Nat}
    (hsz : (DataW.weightsEach P ts ds).all (· ≤ reachBytes) = true) (ht : ts[j]? = some t) (hd : ds[j]? = some d) (hu : P.underlying t = some (.slice e))
    (h : DataW.trod enc P w 0 (fun _ => true) held fuel t (Value.cells (.slice ao len cap)).toList = some (d, p)) : cap * P.bytesOf e ≤ reachBytes := by
  rcases DataW.trod_slice hu h with ⟨h1, _⟩ | ⟨a, l', c', elems, rest, n, _, h1, h2, _, h3, _, h4, _, h5, _⟩
  · simp [Value.cells] at h1
    obtain ⟨_, _, rfl⟩ := h1
    simp
  · simp [Value.cells] at h1
    obtain ⟨rfl, rfl, rfl⟩ := h1
    simp only [Prod.mk.injEq] at h2
    obtain ⟨rfl, rfl⟩ := h2
    have h6 := (h5 rfl).1
    have h7 := sized_slice hsz ht hd hu
    rw [List.length_map, List.length_map, h6, h4] at h7
    rwa [show len + (cap - len) = cap by omega] at h7
end Go
