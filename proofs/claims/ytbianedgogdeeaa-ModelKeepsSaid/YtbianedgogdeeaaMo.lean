/- Model: any operator of Run; what Run has found so far. -/
import Derived.Test.YtbianedgogdeeaaMn
namespace Go.Proofs.Ytbianedgogdeeaa
open Go.RowKit Go.Maps Fold Go.Lib
attribute [local go_sem] Oper.semAt_some
set_option linter.unusedVariables false
set_option linter.unusedSimpArgs false

theorem AtPost.perm {w w' : World} {B n i : Nat} {d : RD} {ops : List TOp} {s : ST} {recs : List TRecord} {vs ns : List Value} {out out' keep keep' : PRS} {e : Ending} (h : AtPost w B d n ops s recs vs ns i out keep e w') (hp : out.Perm out') (hk : keep = keep') : AtPost w B d n ops s recs vs ns i out' keep' e w' := by
  obtain ⟨v, l, kv, h1, h2, h3, h4, h5, h6⟩ := h
  exact ⟨v, l, kv, h1, h2, h3.trans hp, h4, hk ▸ h5, h6⟩
/-- What is found so far: operator by operator a row that reads as what the plain law says, in whatever order. -/
def Fnd (w : World) (base : Nat) (vs : List Value) (f : List PRS) : Prop := ∀ j (hj : j < f.length), ∃ v l, vs[j]? = some v ∧ OwnR w base v l ∧ l.Perm f[j] ∧ (∀ p ∈ l, okR p) ∧ l.length ≤ 4096
theorem Fnd.inR {w : World} {base : Nat} {vs : List Value} {f : List PRS} (h : Fnd w base vs f) {o : TOp} {k : Nat} {j : Nat} (hk : o.fIn[k]? = some (j : Int)) (hj : j < f.length) : ∃ l, InAt w o.fIn vs k l ∧ l.Perm (inAt f o k) := by
  obtain ⟨v, l, h1, h2, h3, h4, h5⟩ := h j hj
  obtain ⟨ao, cap, rfl, h6⟩ := OwnR.pra h2
  refine ⟨l, ⟨j, _, hk, h1, ao, cap, rfl, h6, h4, by omega⟩, ?_⟩
  have : inAt f o k = f[j] := by
    unfold inAt
    rw [hk]
    simp [hj]
  rw [this]
  exact h3
theorem insB_at {o : TOp} {i k : Nat} (h : insB o i = true) (hk : k < o.fIn.length) : ∃ j : Nat, o.fIn[k]? = some (j : Int) ∧ j < i := by
  unfold insB at h
  rw [List.all_eq_true] at h
  have := h _ (List.getElem_mem hk)
  simp only [decide_eq_true_eq] at this
  exact ⟨o.fIn[k].toNat, by rw [List.getElem?_eq_getElem hk]; simp; omega, by omega⟩
theorem opKeep_perm {o : TOp} {a a' kept : PRS} (hs : Srt kept) (h : a.Perm a') : opKeep o a kept = opKeep o a' kept := by
  unfold opKeep
  split
  · exact foldKeep_perm hs h
  · rfl
theorem opOut_ig {o : TOp} {a b c e : PRS} {kept : PRS} {recs : List TRecord} (hk : o.fKind = 1) : opOut o a b kept recs = opOut o c e kept recs := by unfold opOut; rw [if_pos hk, if_pos hk]
theorem opOut_ig2 {o : TOp} {a b c : PRS} {kept : PRS} {recs : List TRecord} (hk : o.fKind ≠ 5) (hk2 : o.fKind ≠ 6) : opOut o a b kept recs = opOut o a c kept recs := by unfold opOut; rw [if_neg hk2, if_neg hk2, if_neg hk, if_neg hk]

theorem at_any {B n i : Nat} {d : RD} {ops : List TOp} {s : ST} {recs : List TRecord} {vs ns : List Value} {f : List PRS} {base : Nat} (w : World) (h : RunW w B d n ops s recs vs ns) (hi : i < n) (o : TOp) (ho : ops[i]? = some o) (hok : okB o i n = true) (hf : Fnd w base vs f) (hfl : f.length = i)
    (hnil : ns[i]? = some (.slice none 0 0)) (hrl : recs.length ≤ 512) (hsl : s.length = 0 ∨ s.length = n) (hs : Srt (keptAt s i)) (hsok : okS s) (hsz : (keptAt s i).length ≤ 5864062014805) :
    Calls Try.prog 28 (d.args i) w (AtPost w B d n ops s recs vs ns i (opOut o (inAt f o 0) (inAt f o 1) (keptAt s i) recs) (opKeep o (inAt f o 0) (keptAt s i))) := by
  unfold okB at hok
  simp only [Bool.and_eq_true, decide_eq_true_eq] at hok
  obtain ⟨⟨⟨hform, hlen⟩, _⟩, hins⟩ := hok
  have hin : ∀ k, k < o.fIn.length → ∃ l, InAt w o.fIn vs k l ∧ l.Perm (inAt f o k) := fun k hk => by
    obtain ⟨j, h1, h2⟩ := insB_at hins hk
    exact hf.inR h1 (by omega)
  unfold wantN at hlen
  by_cases k1 : o.fKind = 1
  · refine (at_src w h hi o ho k1 hrl hnil [] [] (keptAt s i)).mono fun e w' hp => hp.perm (List.Perm.of_eq (opOut_ig k1)) ?_
    rw [opKeep_no (by omega), opKeep_no (by omega)]
  rw [if_neg k1] at hlen
  by_cases k56 : o.fKind = 5 ∨ o.fKind = 6
  · rw [if_pos k56] at hlen
    obtain ⟨a, ha, hpa⟩ := hin 0 (by omega)
    obtain ⟨b, hb, hpb⟩ := hin 1 (by omega)
    rcases k56 with k5 | k6
    · refine (at_join w h hi o ho k5 hnil a b (keptAt s i) ha hb).mono fun e w' hp => hp.perm (opOut_perm hpa hpb (.refl _)) ?_
      rw [opKeep_no (by omega), opKeep_no (by omega)]
    · refine (at_union w h hi o ho k6 hnil a b (keptAt s i) ha hb).mono fun e w' hp => hp.perm (opOut_perm hpa hpb (.refl _)) ?_
      rw [opKeep_no (by omega), opKeep_no (by omega)]
  rw [if_neg k56] at hlen
  obtain ⟨a, ha, hpa⟩ := hin 0 (by omega)
  have hout : (opOut o a [] (keptAt s i) recs).Perm (opOut o (inAt f o 0) (inAt f o 1) (keptAt s i) recs) := by
    rw [opOut_ig2 (b := inAt f o 1) (c := []) (by omega) (by omega)]
    exact opOut_perm hpa (.refl _) (.refl _)
  have hkp := opKeep_perm (o := o) hs hpa
  unfold formB at hform
  rw [if_neg k1] at hform
  by_cases k2 : o.fKind = 2
  · exact (at_map w h hi o ho k2 hnil a [] (keptAt s i) ha).mono fun e w' hp => hp.perm hout hkp
  rw [if_neg k2] at hform
  by_cases k3 : o.fKind = 3
  · exact (at_filter w h hi o ho k3 hnil a [] (keptAt s i) ha).mono fun e w' hp => hp.perm hout hkp
  rw [if_neg k3] at hform
  by_cases k4 : o.fKind = 4
  · rw [if_pos (.inl k4)] at hform
    simp only [decide_eq_true_eq] at hform
    exact (at_fold w h hi o ho k4 hnil a [] ha hform.1 hform.2.1 hsl hs hsok hsz).mono fun e w' hp => hp.perm hout hkp
  rw [if_neg (by omega)] at hform
  by_cases k8 : o.fKind = 8
  · exact (at_sink w h hi o ho k8 hnil a [] (keptAt s i) ha).mono fun e w' hp => hp.perm hout hkp
  rw [if_neg (by omega)] at hform
  by_cases k7 : o.fKind = 7
  · rw [if_pos k7] at hform
    simp only [decide_eq_true_eq] at hform
    exact (at_loop w h hi o ho k7 hnil a [] (keptAt s i) ha (by omega) (by omega)).mono fun e w' hp => hp.perm hout hkp
  · rw [if_neg k7] at hform
    cases hform

/-- Pairs whose texts and numbers fit. -/
def okL (l : PRS) : Prop := ∀ p ∈ l, okR p
theorem okL.perm {a b : PRS} (h : okL a) (hp : a.Perm b) : okL b := fun p hq => h p (hp.mem_iff.2 hq)
theorem oneP_ok {o : TOp} {p q : PR} (hn : o.fNum.toNat < 4294967296) (h : okR p) (hq : oneP o p = some q) : okR q := by
  unfold oneP at hq
  split at hq
  · simp only [Option.some.injEq] at hq
    subst hq
    exact ⟨h.1, mapN_lt _ _ _ hn h.2⟩
  split at hq
  · simp only [Option.some.injEq] at hq
    subst hq
    exact ⟨h.1, loopV_lt _ _ _ _ hn _ _ h.2⟩
  split at hq
  · split at hq
    · simp only [Option.some.injEq] at hq
      subst hq
      exact h
    · cases hq
  · simp only [Option.some.injEq] at hq
    subst hq
    exact h
theorem foldV_lt {wh : Int} {l kept : PRS} (hw : ¬ (wh < 0 ∨ 6 < wh)) (hl : okL l) (hk : okL kept) {k : ByteArray} (hkin : k ∈ keysK l) : foldV wh l kept k < 4294967296 := by
  rw [foldV_cases hw hkin]
  have h1 := allN_lt' wh _ (valsK_lt hl k)
  cases hg : getL kept k with
  | none => exact h1
  | some old => exact joinN_lt wh _ _ (hk _ (getL_mem hg)).2 h1
theorem key_ok {l : PRS} (hl : okL l) {k : ByteArray} (hk : k ∈ keysK l) : k.size ≤ maxLen := by
  obtain ⟨p, hp, rfl⟩ := mem_keysK.1 hk
  exact (hl p hp).1
theorem foldOut_ok {wh : Int} {l kept : PRS} (hw : ¬ (wh < 0 ∨ 6 < wh)) (hl : okL l) (hk : okL kept) : okL (foldOut wh l kept) := by
  intro p hp
  obtain ⟨k, hkk, rfl⟩ := List.mem_map.1 hp
  exact ⟨key_ok hl hkk, foldV_lt hw hl hk hkk⟩
theorem opOut_ok {o : TOp} {a b kept : PRS} {recs : List TRecord} {i n : Nat} (hok : okB o i n = true) (hn : o.fNum.toNat < 4294967296) (ha : okL a) (hb : okL b) (hk : okL kept) (hr : ∀ r ∈ recs, okR (r.fKey, r.fVal.toNat)) : okL (opOut o a b kept recs) := by
  unfold opOut
  split
  · intro p hp
    obtain ⟨r, hr1, hr2⟩ := List.mem_filterMap.1 hp
    unfold srcP at hr2
    split at hr2
    · simp only [Option.some.injEq] at hr2
      subst hr2
      exact hr r hr1
    · cases hr2
  split
  · intro p hp
    rcases List.mem_append.1 hp with h | h
    · exact ha p h
    · exact hb p h
  split
  · rename_i k1 k6 k4
    unfold okB formB at hok
    simp only [Bool.and_eq_true] at hok
    have hform := hok.1.1.1
    rw [if_neg k1, if_neg (by omega), if_neg (by omega), if_pos (.inl k4)] at hform
    simp only [decide_eq_true_eq] at hform
    exact foldOut_ok (by omega) ha hk
  split
  · intro p hp
    obtain ⟨k, hkk, rfl⟩ := List.mem_map.1 hp
    rw [List.mem_filter] at hkk
    exact ⟨key_ok ha hkk.1, joinN_lt _ _ _ (allN_lt' _ _ (valsK_lt ha k)) (allN_lt' _ _ (valsK_lt hb k))⟩
  · intro p hp
    obtain ⟨q, hq1, hq2⟩ := List.mem_filterMap.1 hp
    exact oneP_ok hn (ha q hq1) hq2
end Go.Proofs.Ytbianedgogdeeaa
