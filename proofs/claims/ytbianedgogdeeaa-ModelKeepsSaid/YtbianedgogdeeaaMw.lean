/- Model: what the statements say of an epoch, in plain Lean. -/
import Derived.Test.YtbianedgogdeeaaMv
namespace Go.Proofs.Ytbianedgogdeeaa
open Go.RowKit Fold
set_option linter.unusedVariables false

/-- Lists of lists, place by place the same but for the order. -/
def PL (f g : List PRS) : Prop := f.length = g.length ∧ ∀ i : Nat, (f[i]?.getD []).Perm (g[i]?.getD [])
theorem PL.refl (f : List PRS) : PL f f := ⟨rfl, fun _ => .refl _⟩
theorem PL.snoc {f g : List PRS} (h : PL f g) {a b : PRS} (hp : a.Perm b) : PL (f ++ [a]) (g ++ [b]) := by
  refine ⟨by rw [List.length_append, List.length_append, h.1]; rfl, fun i => ?_⟩
  rcases Nat.lt_trichotomy i f.length with hi | hi | hi
  · rw [List.getElem?_append_left hi, List.getElem?_append_left (by rw [← h.1]; exact hi)]
    exact h.2 i
  · subst hi
    rw [List.getElem?_append_right (Nat.le_refl _), List.getElem?_append_right (by rw [h.1]; exact Nat.le_refl _), Nat.sub_self, h.1, Nat.sub_self]
    exact hp
  · rw [List.getElem?_eq_none (by simp; omega), List.getElem?_eq_none (by rw [List.length_append, ← h.1]; simp; omega)]
theorem inAt_perm {f g : List PRS} (h : PL f g) (o : TOp) (k : Nat) : (inAt f o k).Perm (inAt g o k) := by
  unfold inAt
  cases o.fIn[k]? with
  | none => exact .refl _
  | some j => exact h.2 _
theorem getLast_perm {f g : List PRS} (h : PL f g) : (f.getLast?.getD []).Perm (g.getLast?.getD []) := by
  rw [List.getLast?_eq_getElem?, List.getLast?_eq_getElem?, h.1]
  exact h.2 _
theorem runF_perm {s : ST} (hs : ∀ i, Srt (keptAt s i)) {recs recs' : List TRecord} (hr : recs.Perm recs') : ∀ (ops : List TOp) (f g : List PRS) (n : ST), PL f g →
    (runF s recs ops f n = none ∧ runF s recs' ops g n = none) ∨ ∃ f' g' n', runF s recs ops f n = some (f', n') ∧ runF s recs' ops g n = some (g', n') ∧ PL f' g'
  | [], f, g, n, h => .inr ⟨f, g, n, rfl, rfl, h⟩
  | o :: r, f, g, n, h => by
    have h0 := inAt_perm h o 0
    have h1 := inAt_perm h o 1
    have hp : (opOut o (inAt f o 0) (inAt f o 1) (keptAt s f.length) recs).Perm (opOut o (inAt g o 0) (inAt g o 1) (keptAt s g.length) recs') := by
      rw [h.1]
      exact opOut_perm h0 h1 hr
    have hk : opKeep o (inAt f o 0) (keptAt s f.length) = opKeep o (inAt g o 0) (keptAt s g.length) := by
      rw [h.1]
      exact opKeep_perm (hs _) h0
    unfold runF
    by_cases hl : 4096 < (opOut o (inAt f o 0) (inAt f o 1) (keptAt s f.length) recs).length
    · rw [if_pos hl, if_pos (by rw [← hp.length_eq]; exact hl)]
      exact .inl ⟨rfl, rfl⟩
    · rw [if_neg hl, if_neg (by rw [← hp.length_eq]; exact hl), hk]
      exact runF_perm hs hr r _ _ _ (h.snoc hp)
theorem runM_perm {ops : List TOp} {s : ST} {recs recs' : List TRecord} (hr : recs.Perm recs') : runM ops s recs = runM ops s recs' := by
  unfold runM
  rw [hr.length_eq]
  split
  · rfl
  split
  · rfl
  split
  · rfl
  · rename_i h1 h2 h3
    obtain ⟨_, hs⟩ := goodS_facts (by simpa using h2 : goodS ops s = true)
    rcases runF_perm hs hr ops [] [] [] (PL.refl _) with ⟨e1, e2⟩ | ⟨f, g, n, e1, e2, hp⟩
    · rw [e1, e2]
    · rw [e1, e2]
      dsimp only
      rw [sortP_congr (getLast_perm hp)]

theorem getL_foldKeep2 (w : Int) (l kept : PRS) (k : ByteArray) : getL (foldKeep w l kept) k = optJ w (getL kept k) (allO w (valsK l k)) := by
  rw [getL_foldKeep]
  have hs := allO_isSome w (valsK l k)
  by_cases hk : k ∈ keysK l
  · rw [if_pos hk]
    have hne : valsK l k ≠ [] := fun e => valsK_nil.1 e hk
    unfold foldV
    cases ha : allO w (valsK l k) with
    | none =>
      rw [ha] at hs
      cases hv : valsK l k with
      | nil => exact absurd hv hne
      | cons a r => rw [hv] at hs; cases hs
    | some a => cases getL kept k <;> rfl
  · rw [if_neg hk, valsK_nil.2 hk]
    show _ = optJ w (getL kept k) none
    rw [optJ_none]
theorem foldKeep_append (w : Int) {kept : PRS} (hs : Srt kept) (a b : PRS) : foldKeep w (a ++ b) kept = foldKeep w b (foldKeep w a kept) :=
  srt_ext (foldKeep_srt hs) (foldKeep_srt (foldKeep_srt hs)) (fun k => by
    rw [getL_foldKeep2, getL_foldKeep2, getL_foldKeep2, valsK_append, allO_append, optJ_assoc])
theorem foldOut_nodup (w : Int) (l kept : PRS) : ((foldOut w l kept).map Prod.fst).Nodup := by
  rw [foldOut_keys]
  exact nodup_keysK l
theorem nodup_of_keys {l : PRS} (h : (l.map Prod.fst).Nodup) : l.Nodup := by
  unfold List.Nodup at h ⊢
  rw [List.pairwise_map] at h
  exact h.imp (fun h e => h (congrArg Prod.fst e))
theorem mem_getL {l : PRS} (hn : (l.map Prod.fst).Nodup) (p : PR) : p ∈ l ↔ getL l p.1 = some p.2 := ⟨fun h => getL_of_mem hn h, fun h => getL_mem h⟩
theorem foldOut_sub {w : Int} {l kept : PRS} : ∀ p ∈ foldOut w l kept, getL (foldKeep w l kept) p.1 = some p.2 := fun p hp => by
  have h1 := getL_of_mem (foldOut_nodup w l kept) hp
  rw [getL_foldOut] at h1
  rw [getL_foldKeep]
  by_cases hk : p.1 ∈ keysK l
  · rw [if_pos hk] at h1 ⊢; exact h1
  · rw [if_neg hk] at h1; cases h1
theorem sort_foldOut (w : Int) (l : PRS) : sortP (foldOut w l []) = foldKeep w l [] := by
  have hs : Srt (foldKeep w l []) := foldKeep_srt List.Pairwise.nil
  refine (sortP_eq ?_ ?_).symm
  · refine (List.perm_ext_iff_of_nodup (nodup_of_keys hs.nodup) (nodup_of_keys (foldOut_nodup w l []))).2 (fun p => ?_)
    rw [mem_getL hs.nodup, mem_getL (foldOut_nodup w l []), getL_foldKeep, getL_foldOut]
    rfl
  · unfold Srt at hs
    exact hs.imp (fun h => ltP_leP (.inl h))
theorem sort_foldOut_srt (w : Int) (l kept : PRS) : Srt (sortP (foldOut w l kept)) := by
  have h1 := sortP_sorted (foldOut w l kept)
  have h2 : ((sortP (foldOut w l kept)).map Prod.fst).Nodup := ((sortP_perm _).map Prod.fst).nodup_iff.2 (foldOut_nodup w l kept)
  unfold List.Nodup at h2
  rw [List.pairwise_map] at h2
  unfold Srt
  refine (h1.and h2).imp (fun {p q} h => ?_)
  obtain ⟨h3, h4⟩ := h
  have hne : p ≠ q := fun e => h4 (congrArg Prod.fst e)
  rcases ltP_total hne with h | h
  · rcases h with h | ⟨e, _⟩
    · exact h
    · exact absurd e h4
  · unfold leP at h3
    rw [decide_eq_true h] at h3
    cases h3
theorem foldKeep_keys {w : Int} {l kept : PRS} {p : PR} (hs : Srt kept) (hp : p ∈ foldKeep w l kept) : (p.1 ∈ keysK l) ∨ p ∈ kept := by
  have h1 := getL_of_mem (foldKeep_srt (w := w) (l := l) hs).nodup hp
  rw [getL_foldKeep] at h1
  by_cases hk : p.1 ∈ keysK l
  · exact .inl hk
  · rw [if_neg hk] at h1
    exact .inr (getL_mem h1)
theorem foldKeep_ok {w : Int} {l kept : PRS} (hw : ¬ (w < 0 ∨ 6 < w)) (hs : Srt kept) (hl : okL l) (hk : okL kept) : okL (foldKeep w l kept) := fun p hp => by
  have h1 := getL_of_mem (foldKeep_srt (w := w) (l := l) hs).nodup hp
  rw [getL_foldKeep] at h1
  by_cases hkk : p.1 ∈ keysK l
  · rw [if_pos hkk] at h1
    simp only [Option.some.injEq] at h1
    exact ⟨key_ok hl hkk, by rw [← h1]; exact foldV_lt hw hl hk hkk⟩
  · rw [if_neg hkk] at h1
    exact hk _ (getL_mem h1)
theorem foldl_with_len : ∀ (l kept : PRS), List.length (α := PR) (l.foldl (fun acc p => withL acc p.1 p.2) kept) ≤ kept.length + l.length
  | [], kept => Nat.le_refl _
  | p :: r, kept => by
    have h1 := foldl_with_len r (withL kept p.1 p.2)
    have h2 := withL_len kept p.1 p.2
    rw [List.foldl_cons, List.length_cons]
    omega
theorem foldKeep_len (w : Int) (l kept : PRS) : (foldKeep w l kept).length ≤ kept.length + l.length := by
  have h1 := foldl_with_len (foldOut w l kept) kept
  have h2 := foldOut_len w l kept
  unfold foldKeep
  exact Nat.le_trans h1 (by omega)
/-- A state that the sums' graph keeps. -/
theorem goodS_sums {arg : Int} {k : PRS} (hs : Srt k) (hk : ∀ p ∈ k, p.1.size ≤ 32) : goodS (sumsOps arg) [[], k, []] = true := by
  refine goodS_true rfl (fun i hi => ?_)
  have hi3 : i < 3 := hi
  have hc : i = 0 ∨ i = 1 ∨ i = 2 := by omega
  have hl : goodL k = true := by
    unfold goodL
    rw [Bool.and_eq_true, List.all_eq_true, decide_eq_true_eq]
    exact ⟨fun p hp => decide_eq_true (hk p hp), hs⟩
  rcases hc with rfl | rfl | rfl
  · rfl
  · unfold goodI
    show ((decide (k.length = 0) || true) && goodL k) = true
    rw [hl, Bool.or_true]
    rfl
  · rfl
end Go.Proofs.Ytbianedgogdeeaa
