/- Model: where nothing is gathered, each record alone (plain). -/
import Derived.Test.YtbianedgogdeeaaMw
namespace Go.Proofs.Ytbianedgogdeeaa
open Go.RowKit Fold
set_option linter.unusedVariables false

theorem flatMap_append_perm' {α β : Type} (f g : α → List β) : ∀ l : List α, (l.flatMap f ++ l.flatMap g).Perm (l.flatMap (fun x => f x ++ g x))
  | [] => .refl _
  | x :: r => by
    rw [List.flatMap_cons, List.flatMap_cons, List.flatMap_cons]
    have h := flatMap_append_perm' f g r
    have h1 : (f x ++ r.flatMap f ++ (g x ++ r.flatMap g)).Perm (f x ++ g x ++ (r.flatMap f ++ r.flatMap g)) := by
      rw [List.append_assoc, List.append_assoc]
      refine List.Perm.append_left _ ?_
      rw [← List.append_assoc, ← List.append_assoc]
      exact List.Perm.append_right _ List.perm_append_comm
    exact h1.trans (List.Perm.append_left _ h)
theorem len_le_flatMap {α β : Type} (f : α → List β) {l : List α} {x : α} (hx : x ∈ l) : (f x).length ≤ (l.flatMap f).length := by
  induction l with
  | nil => cases hx
  | cons y r ih =>
    rw [List.flatMap_cons, List.length_append]
    rcases List.mem_cons.1 hx with rfl | h
    · omega
    · have := ih h; omega
theorem filterMap_one {α β : Type} (g : α → Option β) : ∀ l : List α, l.filterMap g = l.flatMap (fun x => [x].filterMap g)
  | [] => rfl
  | x :: r => by
    rw [List.flatMap_cons, ← filterMap_one g r, ← List.filterMap_append]
    rfl
theorem filterMap_flat {α β γ : Type} (g : β → Option γ) (f : α → List β) : ∀ l : List α, (l.flatMap f).filterMap g = l.flatMap (fun x => (f x).filterMap g)
  | [] => rfl
  | x :: r => by
    rw [List.flatMap_cons, List.flatMap_cons, List.filterMap_append, filterMap_flat g f r]
/-- What an operator that gathers nothing makes of all is what it makes of each. -/
theorem opOut_alone {o : TOp} (h4 : o.fKind ≠ 4) (h5 : o.fKind ≠ 5) {a b k : PRS} {A B : TRecord → PRS} {K : TRecord → PRS} {recs : List TRecord} (ha : a.Perm (recs.flatMap A)) (hb : b.Perm (recs.flatMap B)) :
    (opOut o a b k recs).Perm (recs.flatMap (fun r => opOut o (A r) (B r) (K r) [r])) := by
  by_cases h1 : o.fKind = 1
  · have : (fun r => opOut o (A r) (B r) (K r) [r]) = fun r => [r].filterMap (srcP o) := by funext r; unfold opOut; rw [if_pos h1]
    rw [this, ← filterMap_one]
    unfold opOut
    rw [if_pos h1]
  · by_cases h6 : o.fKind = 6
    · have : (fun r => opOut o (A r) (B r) (K r) [r]) = fun r => A r ++ B r := by funext r; unfold opOut; rw [if_neg h1, if_pos h6]
      rw [this]
      unfold opOut
      rw [if_neg h1, if_pos h6]
      exact (ha.append hb).trans (flatMap_append_perm' A B recs)
    · have : (fun r => opOut o (A r) (B r) (K r) [r]) = fun r => (A r).filterMap (oneP o) := by funext r; unfold opOut; rw [if_neg h1, if_neg h6, if_neg h4, if_neg h5]
      rw [this, ← filterMap_flat]
      unfold opOut
      rw [if_neg h1, if_neg h6, if_neg h4, if_neg h5]
      exact ha.filterMap _
/-- Lists of lists: for all records, and for each. -/
def PA (recs : List TRecord) (f : List PRS) (F : TRecord → List PRS) : Prop := (∀ r ∈ recs, (F r).length = f.length) ∧ ∀ i : Nat, (f[i]?.getD []).Perm (recs.flatMap (fun r => (F r)[i]?.getD []))
theorem flatMap_mem {α β : Type} {f g : α → List β} : ∀ {l : List α}, (∀ x ∈ l, f x = g x) → l.flatMap f = l.flatMap g
  | [], _ => rfl
  | x :: r, h => by
    rw [List.flatMap_cons, List.flatMap_cons, h x (List.mem_cons_self ..), flatMap_mem (fun y hy => h y (List.mem_cons_of_mem _ hy))]
theorem flatMap_nil' {α β : Type} : ∀ l : List α, (l.flatMap (fun _ => ([] : List β))) = []
  | [] => rfl
  | x :: r => by rw [List.flatMap_cons, flatMap_nil' r]; rfl
theorem PA.snoc {recs : List TRecord} {f : List PRS} {F : TRecord → List PRS} (h : PA recs f F) {a : PRS} {A : TRecord → PRS} (hp : a.Perm (recs.flatMap A)) : PA recs (f ++ [a]) (fun r => F r ++ [A r]) := by
  refine ⟨fun r hr => by rw [List.length_append, List.length_append, h.1 r hr]; rfl, fun i => ?_⟩
  rcases Nat.lt_trichotomy i f.length with hi | hi | hi
  · rw [List.getElem?_append_left hi, flatMap_mem (g := fun r => (F r)[i]?.getD []) (fun r hr => by rw [List.getElem?_append_left (by rw [h.1 r hr]; exact hi)])]
    exact h.2 i
  · subst hi
    rw [List.getElem?_append_right (Nat.le_refl _), Nat.sub_self, flatMap_mem (g := A) (fun r hr => by rw [List.getElem?_append_right (by rw [h.1 r hr]; exact Nat.le_refl _), h.1 r hr, Nat.sub_self]; rfl)]
    exact hp
  · rw [List.getElem?_eq_none (by simp; omega), flatMap_mem (g := fun _ => []) (fun r hr => by rw [List.getElem?_eq_none (by rw [List.length_append, h.1 r hr]; simp; omega)]; rfl), flatMap_nil']
    exact .refl _
theorem PA.inAt {recs : List TRecord} {f : List PRS} {F : TRecord → List PRS} (h : PA recs f F) (o : TOp) (k : Nat) : (Go.Proofs.Ytbianedgogdeeaa.inAt f o k).Perm (recs.flatMap (fun r => Go.Proofs.Ytbianedgogdeeaa.inAt (F r) o k)) := by
  unfold Go.Proofs.Ytbianedgogdeeaa.inAt
  cases o.fIn[k]? with
  | none =>
    show ([] : PRS).Perm (recs.flatMap (fun _ => []))
    rw [flatMap_nil']
  | some j => exact h.2 _
theorem runF_alone {recs : List TRecord} : ∀ (ops : List TOp) (hk : ∀ o ∈ ops, o.fKind ≠ 4 ∧ o.fKind ≠ 5) (f : List PRS) (F : TRecord → List PRS) (n : ST) (N : TRecord → ST) (f' : List PRS) (n' : ST), PA recs f F → runF [] recs ops f n = some (f', n') →
    ∃ (F' : TRecord → List PRS) (N' : TRecord → ST), (∀ r ∈ recs, runF [] [r] ops (F r) (N r) = some (F' r, N' r)) ∧ PA recs f' F'
  | [], hk, f, F, n, N, f', n', h, he => by
    simp only [runF, Option.some.injEq, Prod.mk.injEq] at he
    obtain ⟨rfl, rfl⟩ := he
    exact ⟨F, N, fun r hr => rfl, h⟩
  | o :: ops, hk, f, F, n, N, f', n', h, he => by
    obtain ⟨h4, h5⟩ := hk o (List.mem_cons_self ..)
    unfold runF at he
    split at he
    · cases he
    · rename_i hl
      have hp : (opOut o (Go.Proofs.Ytbianedgogdeeaa.inAt f o 0) (Go.Proofs.Ytbianedgogdeeaa.inAt f o 1) (keptAt [] f.length) recs).Perm (recs.flatMap (fun r => opOut o (Go.Proofs.Ytbianedgogdeeaa.inAt (F r) o 0) (Go.Proofs.Ytbianedgogdeeaa.inAt (F r) o 1) (keptAt [] (F r).length) [r])) := opOut_alone h4 h5 (h.inAt o 0) (h.inAt o 1)
      obtain ⟨F', N', h1, h2⟩ := runF_alone ops (fun o ho => hk o (List.mem_cons_of_mem _ ho)) _ _ _ (fun r => N r ++ [opKeep o (Go.Proofs.Ytbianedgogdeeaa.inAt (F r) o 0) (keptAt [] (F r).length)]) _ _ (h.snoc hp) he
      refine ⟨F', N', fun r hr => ?_, h2⟩
      unfold runF
      have h3 := len_le_flatMap (fun r => opOut o (Go.Proofs.Ytbianedgogdeeaa.inAt (F r) o 0) (Go.Proofs.Ytbianedgogdeeaa.inAt (F r) o 1) (keptAt [] (F r).length) [r]) hr
      rw [← hp.length_eq] at h3
      rw [if_neg (by omega)]
      exact h1 r hr
theorem runM_err {ops : List TOp} {s : ST} {recs : List TRecord} (h : (runM ops s recs).2.2 ≠ 0) : (runM ops s recs).1 = [] ∧ (runM ops s recs).2.1 = [] := by
  unfold runM at h ⊢
  split
  · exact ⟨rfl, rfl⟩
  split
  · exact ⟨rfl, rfl⟩
  split
  · exact ⟨rfl, rfl⟩
  · rename_i h1 h2 h3
    rw [if_neg h1, if_neg h2, if_neg h3] at h
    split
    · exact ⟨rfl, rfl⟩
    · rename_i e
      rw [e] at h
      exact absurd rfl h
theorem runM_alone {ops : List TOp} {recs : List TRecord} (hk : ∀ o ∈ ops, o.fKind ≠ 4 ∧ o.fKind ≠ 5) (h : (runM ops [] recs).2.2 = 0) :
    (∀ r ∈ recs, (runM ops [] [r]).2.2 = 0) ∧ sortP (recs.flatMap (fun r => (runM ops [] [r]).1)) = (runM ops [] recs).1 := by
  by_cases h1 : (gcheck ops).2 ≠ 0
  · unfold runM at h; rw [if_pos h1] at h; cases h
  by_cases h2 : goodS ops [] = false
  · unfold runM at h; rw [if_neg h1, if_pos h2] at h; cases h
  by_cases h3 : 512 < recs.length
  · unfold runM at h; rw [if_neg h1, if_neg h2, if_pos h3] at h; cases h
  cases he : runF [] recs ops [] [] with
  | none => unfold runM at h; rw [if_neg h1, if_neg h2, if_neg h3, he] at h; cases h
  | some fn =>
    obtain ⟨f, n⟩ := fn
    obtain ⟨F, N, h4, h5⟩ := runF_alone ops hk [] (fun _ => []) [] (fun _ => []) f n ⟨fun _ _ => rfl, fun i => by
      show ([] : PRS).Perm (recs.flatMap (fun _ => []))
      rw [flatMap_nil']⟩ he
    have h6 : ∀ r ∈ recs, runM ops [] [r] = (sortP ((F r).getLast?.getD []), N r, 0) := fun r hr => by
      unfold runM
      rw [if_neg h1, if_neg h2, if_neg (by simp), h4 r hr]
    have hR : runM ops [] recs = (sortP (f.getLast?.getD []), n, 0) := by
      unfold runM
      rw [if_neg h1, if_neg h2, if_neg h3, he]
    refine ⟨fun r hr => by rw [h6 r hr], ?_⟩
    rw [hR]
    refine sortP_congr ?_
    have h7 : (recs.flatMap (fun r => (F r).getLast?.getD [])).Perm (f.getLast?.getD []) := by
      rw [List.getLast?_eq_getElem?, flatMap_mem (g := fun r => (F r)[f.length - 1]?.getD []) (fun r hr => by rw [List.getLast?_eq_getElem?, h5.1 r hr])]
      exact (h5.2 _).symm
    refine List.Perm.trans ?_ h7
    rw [flatMap_mem (g := fun r => sortP ((F r).getLast?.getD [])) (fun r hr => by rw [h6 r hr])]
    clear h7 h6 h5 h4 he h h3 hR
    induction recs with
    | nil => exact .refl _
    | cons r rs ih =>
      rw [List.flatMap_cons, List.flatMap_cons]
      exact (sortP_perm _).append ih
theorem runF_len {s : ST} {recs : List TRecord} : ∀ (ops : List TOp) (f : List PRS) (n : ST) (f' : List PRS) (n' : ST), (∀ l ∈ f, l.length ≤ 4096) → runF s recs ops f n = some (f', n') → ∀ l ∈ f', l.length ≤ 4096
  | [], f, n, f', n', h, he => by
    simp only [runF, Option.some.injEq, Prod.mk.injEq] at he
    obtain ⟨rfl, rfl⟩ := he
    exact h
  | o :: ops, f, n, f', n', h, he => by
    unfold runF at he
    split at he
    · cases he
    · rename_i hl
      refine runF_len ops _ _ f' n' (fun l hm => ?_) he
      rcases List.mem_append.1 hm with h1 | h1
      · exact h l h1
      · rw [List.mem_singleton.1 h1]; omega
/-- What Run hands back is short. -/
theorem runM_len (ops : List TOp) (s : ST) (recs : List TRecord) : (runM ops s recs).1.length ≤ 4096 := by
  unfold runM
  split
  · exact Nat.zero_le _
  split
  · exact Nat.zero_le _
  split
  · exact Nat.zero_le _
  split
  · exact Nat.zero_le _
  · rename_i f n e
    show (sortP (f.getLast?.getD [])).length ≤ 4096
    rw [(sortP_perm _).length_eq]
    cases hg : f.getLast? with
    | none => exact Nat.zero_le _
    | some l => exact runF_len ops [] [] f n (fun l h => by cases h) e l (List.mem_of_getLast? hg)
end Go.Proofs.Ytbianedgogdeeaa
