/- Progress: what is told, and told again turned about: plain Lean. -/
import Derived.Test.YtjmbafcpbagpdaaGreatPh
namespace Go.Proofs.YtjmbafcpbagpdaaGreat
open Go.RowKit Go.Maps
set_option linter.unusedVariables false
set_option linter.unusedSimpArgs false

theorem delC_nodup {cs : List (TStamp × Int)} (h : (cs.map Prod.fst).Nodup) (s : TStamp) : ((delC cs s).map Prod.fst).Nodup ∧ s ∉ (delC cs s).map Prod.fst := by
  refine ⟨(List.filter_sublist.map Prod.fst).nodup h, fun hm => ?_⟩
  obtain ⟨p, hp, rfl⟩ := List.mem_map.1 hm
  have := (List.mem_filter.1 hp).2
  simp at this
theorem nxL_nodup (l : List TCount) : ((nxL l).map Prod.fst).Nodup := by
  suffices H : ∀ i, i ≤ l.length → ((nxL (l.take i)).map Prod.fst).Nodup by
    have := H l.length (Nat.le_refl _)
    rwa [List.take_of_length_le (Nat.le_refl _)] at this
  intro i
  induction i with
  | zero => intro _; simp [nxL]
  | succ i ih =>
    intro h
    rw [take_snoc (by omega), nxL_snoc]
    unfold nxC setC
    have := delC_nodup (ih (by omega)) l[i].fS
    rw [List.map_cons, List.nodup_cons]
    exact ⟨this.2, this.1⟩
theorem nxL_val {l : List TCount} {p : TStamp × Int} (h : p ∈ nxL l) : p.2 = wrap64 (totC l p.1) := by
  have h1 := nxL_cnt l p.1 l.length (Nat.le_refl _)
  rw [List.take_of_length_le (Nat.le_refl _)] at h1
  rw [← h1]
  unfold cntC
  rw [getC_of_mem (nxL_nodup l) (show (p.1, p.2) ∈ nxL l from h)]
  rfl
theorem key_iff {cs : List (TStamp × Int)} (hn : (cs.map Prod.fst).Nodup) (hz : ∀ p ∈ cs, p.2 ≠ 0 ∧ -4611686018427387904 ≤ p.2 ∧ p.2 ≤ 4611686018427387904) (s : TStamp) : s ∈ cs.map Prod.fst ↔ cntC cs s ≠ 0 := by
  constructor
  · intro h
    obtain ⟨p, hp, rfl⟩ := List.mem_map.1 h
    unfold cntC
    rw [getC_of_mem hn (show (p.1, p.2) ∈ cs from hp)]
    exact (hz p hp).1
  · intro h
    by_cases hs : s ∈ cs.map Prod.fst
    · exact hs
    · exact absurd (cntC_out (fun p hp e => hs (List.mem_map.2 ⟨p, hp, e⟩))) h
end Go.Proofs.YtjmbafcpbagpdaaGreat
