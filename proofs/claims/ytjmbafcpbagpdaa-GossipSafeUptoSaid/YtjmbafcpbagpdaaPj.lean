/- Progress: what is told, and told again turned about: plain Lean. -/
import Derived.Test.YtjmbafcpbagpdaaPh
namespace Go.Proofs.Ytjmbafcpbagpdaa
open Go.RowKit Go.Maps
set_option linter.unusedVariables false
set_option linter.unusedSimpArgs false

def backC (c : TCount) : TCount := ⟨c.fS, -c.fN⟩
theorem tot_back (l : List TCount) (s : TStamp) : totC (l.map backC) s = - totC l s := by
  unfold totC
  induction l with
  | nil => rfl
  | cons c r ih =>
    simp only [List.map_cons, List.sum_cons] at ih ⊢
    rw [ih]
    by_cases h : c.fS = s
    · rw [if_pos h, if_pos (show (backC c).fS = s from h)]
      show -c.fN + _ = _
      omega
    · rw [if_neg h, if_neg (show ¬ (backC c).fS = s from h)]
      omega
theorem ok_back {ops : List TOp} {c : TCount} (h : okC ops c = true) : okC ops (backC c) = true := by
  unfold okC at h ⊢
  simp only [Bool.and_eq_true, decide_eq_true_eq] at h ⊢
  refine ⟨⟨?_, ?_⟩, h.2⟩
  · show -2147483648 ≤ -c.fN
    omega
  · show -c.fN ≤ 2147483648
    omega
theorem delC_nodup {cs : List (TStamp × Int)} (h : (cs.map Prod.fst).Nodup) (s : TStamp) : ((delC cs s).map Prod.fst).Nodup ∧ s ∉ (delC cs s).map Prod.fst := by
  refine ⟨(List.filter_sublist.map Prod.fst).nodup h, fun hm => ?_⟩
  obtain ⟨p, hp, rfl⟩ := List.mem_map.1 hm
  have := (List.mem_filter.1 hp).2
  simp at this
theorem nxL_nodup (l : List TCount) : ((nxL l).map Prod.fst).Nodup := by
  suffices H : ∀ i, i ≤ l.length → ((nxL (l.take i)).map Prod.fst).Nodup by
    have := H l.length (Nat.le_refl _)
    rwa [List.take_of_length_le (Nat.le_refl _)] at this
  intro i
  induction i with
  | zero => intro _; simp [nxL]
  | succ i ih =>
    intro h
    rw [take_snoc (by omega), nxL_snoc]
    unfold nxC setC
    have := delC_nodup (ih (by omega)) l[i].fS
    rw [List.map_cons, List.nodup_cons]
    exact ⟨this.2, this.1⟩
theorem nxL_val {l : List TCount} {p : TStamp × Int} (h : p ∈ nxL l) : p.2 = wrap64 (totC l p.1) := by
  have h1 := nxL_cnt l p.1 l.length (Nat.le_refl _)
  rw [List.take_of_length_le (Nat.le_refl _)] at h1
  rw [← h1]
  unfold cntC
  rw [getC_of_mem (nxL_nodup l) (show (p.1, p.2) ∈ nxL l from h)]
  rfl
theorem back_pass {cs cs1 : List (TStamp × Int)} {l : List TCount} (hz : ∀ p ∈ cs, p.2 ≠ 0 ∧ -4611686018427387904 ≤ p.2 ∧ p.2 ≤ 4611686018427387904) (h : ∀ s, cntC cs1 s = wrap64 (cntC cs s + totC l s)) (s : TStamp) : wrap64 (cntC cs1 s + totC (l.map backC) s) = cntC cs s := by
  rw [h s, tot_back]
  have := cntC_range hz s
  unfold wrap64
  omega
theorem back_upd {ops : List TOp} {cs cs1 : List (TStamp × Int)} {l : List TCount} (hz : ∀ p ∈ cs, p.2 ≠ 0 ∧ -4611686018427387904 ≤ p.2 ∧ p.2 ≤ 4611686018427387904) (h : ∀ s, cntC cs1 s = wrap64 (cntC cs s + totC l s)) (hok : l.all (okC ops) = true) : updE ops cs1 (l.map backC) = 0 := by
  unfold updE
  rw [if_neg, if_pos]
  · intro p hp
    unfold passC
    rw [nxL_val hp, wrap_add', back_pass hz h]
    have := cntC_range hz p.1
    omega
  · rw [Bool.not_eq_false, List.all_eq_true]
    intro c hc
    obtain ⟨d, hd, rfl⟩ := List.mem_map.1 hc
    exact ok_back (List.all_eq_true.1 hok d hd)
theorem key_iff {cs : List (TStamp × Int)} (hn : (cs.map Prod.fst).Nodup) (hz : ∀ p ∈ cs, p.2 ≠ 0 ∧ -4611686018427387904 ≤ p.2 ∧ p.2 ≤ 4611686018427387904) (s : TStamp) : s ∈ cs.map Prod.fst ↔ cntC cs s ≠ 0 := by
  constructor
  · intro h
    obtain ⟨p, hp, rfl⟩ := List.mem_map.1 h
    unfold cntC
    rw [getC_of_mem hn (show (p.1, p.2) ∈ cs from hp)]
    exact (hz p hp).1
  · intro h
    by_cases hs : s ∈ cs.map Prod.fst
    · exact hs
    · exact absurd (cntC_out (fun p hp e => hs (List.mem_map.2 ⟨p, hp, e⟩))) h
theorem same_len {cs cs2 : List (TStamp × Int)} (hn : (cs.map Prod.fst).Nodup) (hz : ∀ p ∈ cs, p.2 ≠ 0 ∧ -4611686018427387904 ≤ p.2 ∧ p.2 ≤ 4611686018427387904) (hn2 : (cs2.map Prod.fst).Nodup) (hz2 : ∀ p ∈ cs2, p.2 ≠ 0 ∧ -4611686018427387904 ≤ p.2 ∧ p.2 ≤ 4611686018427387904) (h : ∀ s, cntC cs2 s = cntC cs s) : cs2.length = cs.length := by
  have hp : (cs2.map Prod.fst).Perm (cs.map Prod.fst) := (List.perm_ext_iff_of_nodup hn2 hn).2 (fun s => by rw [key_iff hn hz, key_iff hn2 hz2, h s])
  simpa using hp.length_eq
theorem same_alive {cs cs2 : List (TStamp × Int)} (hn : (cs.map Prod.fst).Nodup) (hn2 : (cs2.map Prod.fst).Nodup) (h : ∀ s, cntC cs2 s = cntC cs s) (s : TStamp) : s ∈ aliveC cs2 ↔ s ∈ aliveC cs := by
  rw [alive_mem hn, alive_mem hn2, h s]
theorem updE_ok {ops : List TOp} {cs : List (TStamp × Int)} {l : List TCount} (h : updE ops cs l = 0) : l.all (okC ops) = true := by
  unfold updE at h
  by_cases h1 : l.all (okC ops) = false
  · rw [if_pos h1] at h; simp at h
  · simpa using h1
end Go.Proofs.Ytjmbafcpbagpdaa
