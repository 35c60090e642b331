/- Progress: what Update makes of the counts: plain Lean. -/
import Derived.Test.YtjmbafcpbagpdaaGreatPd
import Derived.Test.YtjmbafcpbagpdaaGreatTyCount
namespace Go.Proofs.YtjmbafcpbagpdaaGreat
open Go.RowKit Go.Maps
set_option linter.unusedVariables false
set_option linter.unusedSimpArgs false

def delC (cs : List (TStamp × Int)) (s : TStamp) : List (TStamp × Int) := cs.filter fun p => !decide (p.1 = s)
def setC (cs : List (TStamp × Int)) (s : TStamp) (n : Int) : List (TStamp × Int) := (s, n) :: delC cs s
theorem entC_del (cs : List (TStamp × Int)) (s : TStamp) : entC (delC cs s) = delE (entC cs) s := by
  unfold entC delC delE
  rw [List.filter_map]
  rfl
theorem entC_set (cs : List (TStamp × Int)) (s : TStamp) (n : Int) : entC (setC cs s n) = setE (entC cs) s (.int .i64 n) := by
  unfold setC setE
  rw [← entC_del]
  rfl
theorem getC_del (cs : List (TStamp × Int)) (s t : TStamp) : getC (delC cs s) t = if t = s then none else getC cs t := by
  unfold getC delC
  rw [List.find?_filter]
  by_cases h : t = s
  · subst h
    rw [if_pos rfl]
    have : cs.find? (fun a => !decide (a.1 = t) && decide (a.1 = t)) = none := by
      rw [List.find?_eq_none]
      intro a _
      simp
    first
      | (rw [this]; rfl)
      | (simp only [Option.map_eq_none_iff, List.find?_eq_none]; intro a _; simp)
  · rw [if_neg h]
    congr 1
    congr 1
    funext a
    by_cases h1 : a.1 = t
    · have h2 : a.1 ≠ s := fun h2 => h (h1.symm.trans h2)
      simp [h1, h2, h]
    · simp [h1]
theorem getC_set (cs : List (TStamp × Int)) (s : TStamp) (n : Int) (t : TStamp) : getC (setC cs s n) t = if t = s then some n else getC cs t := by
  by_cases h : t = s
  · subst h
    simp [getC, setC]
  · rw [if_neg h]
    have h1 := getC_del cs s t
    rw [if_neg h] at h1
    rw [← h1]
    unfold getC setC
    rw [List.find?_cons_of_neg (by simpa using fun e => h e.symm)]
theorem cntC_del (cs : List (TStamp × Int)) (s t : TStamp) : cntC (delC cs s) t = if t = s then 0 else cntC cs t := by
  unfold cntC
  rw [getC_del]
  split <;> rfl
theorem cntC_set (cs : List (TStamp × Int)) (s : TStamp) (n : Int) (t : TStamp) : cntC (setC cs s n) t = if t = s then n else cntC cs t := by
  unfold cntC
  rw [getC_set]
  split <;> rfl
theorem delC_len (cs : List (TStamp × Int)) (s : TStamp) : (delC cs s).length ≤ cs.length := List.length_filter_le _ _
theorem getC_mem {cs : List (TStamp × Int)} {s : TStamp} {n : Int} (h : getC cs s = some n) : (s, n) ∈ cs := by
  unfold getC at h
  obtain ⟨p, hp, rfl⟩ := Option.map_eq_some_iff.1 h
  have h1 := List.mem_of_find?_eq_some hp
  have h2 := List.find?_some hp
  have h3 : p.1 = s := by simpa using h2
  rw [← h3]
  exact h1
theorem getC_of_mem {cs : List (TStamp × Int)} (hn : (cs.map Prod.fst).Nodup) {s : TStamp} {n : Int} (h : (s, n) ∈ cs) : getC cs s = some n := by
  induction cs with
  | nil => simp at h
  | cons p r ih =>
    simp only [List.map_cons, List.nodup_cons] at hn
    rcases List.mem_cons.1 h with rfl | h1
    · simp [getC]
    · have hne : p.1 ≠ s := fun e => hn.1 (by rw [e]; exact List.mem_map.2 ⟨_, h1, rfl⟩)
      have := ih hn.2 h1
      unfold getC at this ⊢
      rw [List.find?_cons_of_neg (by simpa using hne)]
      exact this

/-- The counts of one Update, pointstamp by pointstamp. -/
def nxC (a : List (TStamp × Int)) (c : TCount) : List (TStamp × Int) := setC a c.fS (wrap64 (cntC a c.fS + c.fN))
def nxL (l : List TCount) : List (TStamp × Int) := l.foldl nxC []
def totC (l : List TCount) (s : TStamp) : Int := (l.map fun c => if c.fS = s then c.fN else 0).sum
theorem nxL_snoc (l : List TCount) (c : TCount) : nxL (l ++ [c]) = nxC (nxL l) c := by unfold nxL; rw [List.foldl_append]; rfl
theorem totC_snoc (l : List TCount) (c : TCount) (s : TStamp) : totC (l ++ [c]) s = totC l s + if c.fS = s then c.fN else 0 := by
  unfold totC
  rw [List.map_append, List.sum_append]
  simp
theorem wrap_add (a b : Int) : wrap64 (wrap64 a + b) = wrap64 (a + b) := by unfold wrap64; omega
theorem wrap_add' (a b : Int) : wrap64 (a + wrap64 b) = wrap64 (a + b) := by unfold wrap64; omega
theorem take_snoc {α : Type} {l : List α} {i : Nat} (h : i < l.length) : l.take (i + 1) = l.take i ++ [l[i]] := by
  rw [List.take_succ_eq_append_getElem h]
theorem nxL_cnt (l : List TCount) (s : TStamp) : ∀ i, i ≤ l.length → cntC (nxL (l.take i)) s = wrap64 (totC (l.take i) s)
  | 0, _ => by simp [nxL, totC, cntC, getC, wrap64]
  | i + 1, h => by
    rw [take_snoc (by omega), nxL_snoc, totC_snoc]
    unfold nxC
    rw [cntC_set, nxL_cnt l _ i (by omega)]
    by_cases hs : l[i].fS = s
    · rw [if_pos hs.symm, if_pos hs, hs, wrap_add]
    · rw [if_neg (fun e => hs e.symm), if_neg hs, Int.add_zero, nxL_cnt l s i (by omega)]
theorem nxL_len (l : List TCount) : ∀ i, i ≤ l.length → (nxL (l.take i)).length ≤ i
  | 0, _ => by simp [nxL]
  | i + 1, h => by
    have := nxL_len l i (by omega)
    rw [take_snoc (by omega), nxL_snoc]
    unfold nxC setC
    have := delC_len (nxL (l.take i)) l[i].fS
    simp only [List.length_cons]
    omega
theorem nxL_keys (l : List TCount) : ∀ i, i ≤ l.length → ∀ p ∈ nxL (l.take i), ∃ c ∈ l, c.fS = p.1
  | 0, _, p, h => by simp [nxL] at h
  | i + 1, h, p, hp => by
    rw [take_snoc (by omega), nxL_snoc] at hp
    unfold nxC setC at hp
    rcases List.mem_cons.1 hp with rfl | h1
    · exact ⟨l[i], List.getElem_mem (by omega), rfl⟩
    · exact nxL_keys l i (by omega) p (List.mem_filter.1 h1).1

/-- May the count of p be added? -/
def passC (cs : List (TStamp × Int)) (p : TStamp × Int) : Prop := wrap64 (cntC cs p.1 + p.2) ≤ 4611686018427387904 ∧ -4611686018427387904 ≤ wrap64 (cntC cs p.1 + p.2)
instance (cs : List (TStamp × Int)) (p : TStamp × Int) : Decidable (passC cs p) := by unfold passC; infer_instance
/-- A right count. -/
def okC (ops : List TOp) (c : TCount) : Bool := decide (-2147483648 ≤ c.fN) && decide (c.fN ≤ 2147483648) && goodS ops c.fS.fLoc c.fS.fT.fEpoch c.fS.fT.fRound
/-- What Update answers. -/
def updE (ops : List TOp) (cs : List (TStamp × Int)) (l : List TCount) : Int :=
  if l.all (okC ops) = false then 1 else if ∀ p ∈ nxL l, passC cs p then 0 else 14

/-- One step of the adding. -/
def addC (cur : List (TStamp × Int)) (s : TStamp) (n : Int) : List (TStamp × Int) :=
  if wrap64 (cntC cur s + n) = 0 then delC (setC cur s (wrap64 (cntC cur s + n))) s else setC cur s (wrap64 (cntC cur s + n))
theorem addC_cnt (cur : List (TStamp × Int)) (s : TStamp) (n : Int) (t : TStamp) : cntC (addC cur s n) t = if t = s then wrap64 (cntC cur s + n) else cntC cur t := by
  unfold addC
  split
  · rename_i h
    rw [cntC_del, cntC_set]
    by_cases ht : t = s
    · rw [if_pos ht, if_pos ht, h]
    · rw [if_neg ht, if_neg ht]
  · rw [cntC_set]
theorem addC_mem {cur : List (TStamp × Int)} {s : TStamp} {n : Int} {p : TStamp × Int} (h : p ∈ addC cur s n) : (p = (s, wrap64 (cntC cur s + n)) ∧ wrap64 (cntC cur s + n) ≠ 0) ∨ p ∈ cur := by
  unfold addC at h
  split at h
  · have h1 := List.mem_filter.1 h
    rcases List.mem_cons.1 h1.1 with rfl | h2
    · simp at h1
    · exact .inr (List.mem_filter.1 h2).1
  · rename_i h0
    rcases List.mem_cons.1 h with rfl | h2
    · exact .inl ⟨rfl, h0⟩
    · exact .inr (List.mem_filter.1 h2).1

/-- The state of the adding: what is left of the counts to be added. -/
structure UpI (ops : List TOp) (cs nx cur : List (TStamp × Int)) (rest : List (TStamp × Value)) : Prop where
  cnt : ∀ s, cntC cur s = if s ∈ rest.map Prod.fst then cntC cs s else wrap64 (cntC cs s + cntC nx s)
  nz : ∀ p ∈ cur, p.2 ≠ 0 ∧ -4611686018427387904 ≤ p.2 ∧ p.2 ≤ 4611686018427387904
  good : ∀ p ∈ cur, goodS ops p.1.fLoc p.1.fT.fEpoch p.1.fT.fRound = true
  len : cur.length + rest.length ≤ cs.length + nx.length
theorem cntC_range {cs : List (TStamp × Int)} (h : ∀ p ∈ cs, p.2 ≠ 0 ∧ -4611686018427387904 ≤ p.2 ∧ p.2 ≤ 4611686018427387904) (s : TStamp) : -4611686018427387904 ≤ cntC cs s ∧ cntC cs s ≤ 4611686018427387904 := by
  unfold cntC
  cases hg : getC cs s with
  | none => simp
  | some n => exact (h _ (getC_mem hg)).2
theorem cntC_out {cs : List (TStamp × Int)} {s : TStamp} (h : ∀ p ∈ cs, p.1 ≠ s) : cntC cs s = 0 := by
  unfold cntC
  cases hg : getC cs s with
  | none => rfl
  | some n => exact absurd rfl (h _ (getC_mem hg))
theorem UpI.start {ops : List TOp} {cs nx : List (TStamp × Int)} (hz : ∀ p ∈ cs, p.2 ≠ 0 ∧ -4611686018427387904 ≤ p.2 ∧ p.2 ≤ 4611686018427387904) (hg : ∀ p ∈ cs, goodS ops p.1.fLoc p.1.fT.fEpoch p.1.fT.fRound = true) : UpI ops cs nx cs (entC nx) := by
  refine ⟨fun s => ?_, hz, hg, by unfold entC; rw [List.length_map]; exact Nat.le_refl _⟩
  split
  · rfl
  · rename_i h
    rw [cntC_out (cs := nx) (fun p hp e => h (by
      unfold entC
      rw [List.map_map]
      exact List.mem_map.2 ⟨p, hp, e⟩)), Int.add_zero]
    have := cntC_range hz s
    unfold wrap64
    omega
theorem UpI.step {ops : List TOp} {cs nx cur : List (TStamp × Int)} {rest : List (TStamp × Value)} (h : UpI ops cs nx cur rest) (hrn : (rest.map Prod.fst).Nodup) (hnn : (nx.map Prod.fst).Nodup) {y : TStamp} {k : Int} (hm : (y, Value.int .i64 k) ∈ rest) (hk : (y, k) ∈ nx) (hp : passC cs (y, k)) (hg : goodS ops y.fLoc y.fT.fEpoch y.fT.fRound = true) :
    UpI ops cs nx (addC cur y k) (delE rest y) ∧ cntC cur y = cntC cs y := by
  have hyr : y ∈ rest.map Prod.fst := List.mem_map.2 ⟨_, hm, rfl⟩
  have hcy : cntC cur y = cntC cs y := by rw [h.cnt y, if_pos hyr]
  have hny : cntC nx y = k := by unfold cntC; rw [getC_of_mem hnn hk]; rfl
  have hdm : ∀ s, s ∈ (delE rest y).map Prod.fst ↔ (s ∈ rest.map Prod.fst ∧ s ≠ y) := fun s => by
    unfold delE
    simp only [List.mem_map, List.mem_filter, Bool.not_eq_true', decide_eq_false_iff_not]
    constructor
    · rintro ⟨p, ⟨h1, h2⟩, rfl⟩
      exact ⟨⟨p, h1, rfl⟩, h2⟩
    · rintro ⟨⟨p, h1, rfl⟩, h2⟩
      exact ⟨p, ⟨h1, h2⟩, rfl⟩
  refine ⟨⟨fun s => ?_, fun p hpm => ?_, fun p hpm => ?_, ?_⟩, hcy⟩
  · rw [addC_cnt]
    by_cases hs : s = y
    · rw [if_pos hs, if_neg (fun e => ((hdm s).1 e).2 hs), hcy, hs, hny]
    · rw [if_neg hs, h.cnt s]
      by_cases hsr : s ∈ rest.map Prod.fst
      · rw [if_pos hsr, if_pos ((hdm s).2 ⟨hsr, hs⟩)]
      · rw [if_neg hsr, if_neg (fun e => hsr ((hdm s).1 e).1)]
  · rcases addC_mem hpm with ⟨rfl, h1⟩ | h1
    · rw [hcy] at h1 ⊢
      unfold passC at hp
      exact ⟨h1, hp.2, hp.1⟩
    · exact h.nz p h1
  · rcases addC_mem hpm with ⟨rfl, h1⟩ | h1
    · exact hg
    · exact h.good p h1
  · have h1 : (addC cur y k).length ≤ cur.length + 1 := by
      have h3 := delC_len cur y
      unfold addC
      split
      · have h2 := delC_len (setC cur y (wrap64 (cntC cur y + k))) y
        unfold setC at h2 ⊢
        simp only [List.length_cons] at h2
        omega
      · unfold setC
        simp only [List.length_cons]
        omega
    have h2 := (RangeL.del_perm hrn hm).length_eq
    simp only [List.length_cons] at h2
    have := h.len
    omega
end Go.Proofs.YtjmbafcpbagpdaaGreat
