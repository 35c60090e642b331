/- Progress: the document's counts: plain Lean. -/
import Derived.Test.YtbholbjegfnpdaaPt
import Derived.Test.YtbholbjegfnpdaaPv
namespace Go.Proofs.Ytbholbjegfnpdaa
open Go.RowKit Go.Maps
set_option linter.unusedVariables false
set_option linter.unusedSimpArgs false

instance (x y : TStamp) : Decidable (ltS x y) := by unfold ltS; infer_instance
/-- Counts with one changed. -/
def insL (c : TCount) : List TCount → List TCount
  | [] => [c]
  | x :: r => if ltS c.fS x.fS then c :: x :: r else if x.fS = c.fS then ⟨c.fS, c.fN + x.fN⟩ :: r else x :: insL c r
def cntL (L : List TCount) (s : TStamp) : Int := ((L.find? fun c => decide (c.fS = s)).map (·.fN)).getD 0
def SrtL (L : List TCount) : Prop := (L.map (·.fS)).Pairwise ltS
theorem insL_keys (c : TCount) (s : TStamp) : ∀ L : List TCount, s ∈ (insL c L).map (·.fS) ↔ s = c.fS ∨ s ∈ L.map (·.fS)
  | [] => by simp [insL]
  | x :: r => by
    unfold insL
    by_cases h1 : ltS c.fS x.fS
    · rw [if_pos h1]; simp
    · rw [if_neg h1]
      by_cases h2 : x.fS = c.fS
      · rw [if_pos h2]; simp [h2]
      · rw [if_neg h2, List.map_cons, List.mem_cons, insL_keys c s r, List.map_cons, List.mem_cons]
        constructor
        · rintro (h | h | h)
          · exact .inr (.inl h)
          · exact .inl h
          · exact .inr (.inr h)
        · rintro (h | h | h)
          · exact .inr (.inl h)
          · exact .inl h
          · exact .inr (.inr h)
theorem insL_len (c : TCount) : ∀ L : List TCount, (insL c L).length ≤ L.length + 1
  | [] => by simp [insL]
  | x :: r => by
    unfold insL
    split
    · simp
    · split
      · simp
      · have := insL_len c r
        simp only [List.length_cons]
        omega
theorem insL_srt (c : TCount) : ∀ L : List TCount, SrtL L → SrtL (insL c L)
  | [], _ => by simp [insL, SrtL]
  | x :: r, h => by
    have h0 := h
    unfold SrtL at h
    rw [List.map_cons, List.pairwise_cons] at h
    obtain ⟨h1, h2⟩ := h
    unfold insL
    by_cases e1 : ltS c.fS x.fS
    · rw [if_pos e1]
      unfold SrtL
      rw [List.map_cons, List.pairwise_cons]
      refine ⟨fun s hs => ?_, h0⟩
      rw [List.map_cons] at hs
      rcases List.mem_cons.1 hs with rfl | hs
      · exact e1
      · exact ltS_trans e1 (h1 s hs)
    · rw [if_neg e1]
      by_cases e2 : x.fS = c.fS
      · rw [if_pos e2]
        unfold SrtL
        rw [List.map_cons, List.pairwise_cons]
        exact ⟨fun s hs => by rw [← e2]; exact h1 s hs, h2⟩
      · rw [if_neg e2]
        unfold SrtL
        rw [List.map_cons, List.pairwise_cons]
        refine ⟨fun s hs => ?_, insL_srt c r h2⟩
        rcases (insL_keys c s r).1 hs with rfl | hs
        · exact (ltS_total e2).resolve_right e1
        · exact h1 s hs
theorem cntL_out {L : List TCount} {s : TStamp} (h : s ∉ L.map (·.fS)) : cntL L s = 0 := by
  unfold cntL
  rw [List.find?_eq_none.2 (fun c hc => by simp; exact fun e => h (List.mem_map.2 ⟨c, hc, e⟩))]
  rfl
theorem cntL_cons (x : TCount) (r : List TCount) (s : TStamp) : cntL (x :: r) s = if x.fS = s then x.fN else cntL r s := by
  unfold cntL
  by_cases h : x.fS = s
  · rw [List.find?_cons_of_pos (by simpa using h), if_pos h]; rfl
  · rw [List.find?_cons_of_neg (by simpa using h), if_neg h]
theorem cntL_mem {L : List TCount} (h : SrtL L) : ∀ c ∈ L, cntL L c.fS = c.fN := by
  induction L with
  | nil => intro c hc; cases hc
  | cons x r ih =>
    unfold SrtL at h
    rw [List.map_cons, List.pairwise_cons] at h
    intro c hc
    rw [cntL_cons]
    rcases List.mem_cons.1 hc with rfl | hc
    · rw [if_pos rfl]
    · rw [if_neg, ih h.2 c hc]
      intro e
      have := h.1 c.fS (List.mem_map.2 ⟨c, hc, rfl⟩)
      rw [e] at this
      exact ltS_irrefl _ this
theorem insL_cnt (c : TCount) (s : TStamp) : ∀ L : List TCount, SrtL L → cntL (insL c L) s = (if c.fS = s then c.fN else 0) + cntL L s
  | [], _ => by
    rw [insL, cntL_cons]
    split <;> simp [cntL]
  | x :: r, h => by
    have h0 := h
    unfold SrtL at h
    rw [List.map_cons, List.pairwise_cons] at h
    obtain ⟨h1, h2⟩ := h
    unfold insL
    by_cases e1 : ltS c.fS x.fS
    · rw [if_pos e1, cntL_cons]
      by_cases e : c.fS = s
      · rw [if_pos e, if_pos e]
        subst e
        rw [cntL_out (L := x :: r), Int.add_zero]
        intro hm
        rw [List.map_cons] at hm
        rcases List.mem_cons.1 hm with e | hm
        · rw [← e] at e1; exact ltS_irrefl _ e1
        · exact ltS_irrefl _ (ltS_trans e1 (h1 _ hm))
      · rw [if_neg e, if_neg e, Int.zero_add]
    · rw [if_neg e1]
      by_cases e2 : x.fS = c.fS
      · rw [if_pos e2, cntL_cons, cntL_cons, e2]
        split <;> simp
      · rw [if_neg e2, cntL_cons, cntL_cons, insL_cnt c s r h2]
        by_cases e : x.fS = s
        · rw [if_pos e, if_pos e, if_neg (fun e' => e2 (e.trans e'.symm)), Int.zero_add]
        · rw [if_neg e, if_neg e]
/-- Walking along the counts: what is behind the place is as it will be. -/
theorem insL_pass (c : TCount) {x : TCount} {r : List TCount} (h1 : ¬ ltS c.fS x.fS) (h2 : x.fS ≠ c.fS) : insL c (x :: r) = x :: insL c r := by
  rw [insL, if_neg h1, if_neg h2]
theorem insL_here (c : TCount) {x : TCount} {r : List TCount} (h1 : ltS c.fS x.fS) : insL c (x :: r) = c :: x :: r := by
  rw [insL, if_pos h1]
theorem insL_same (c : TCount) {x : TCount} {r : List TCount} (h2 : x.fS = c.fS) : insL c (x :: r) = ⟨c.fS, c.fN + x.fN⟩ :: r := by
  rw [insL, if_neg (fun h => by rw [h2] at h; exact ltS_irrefl _ h), if_pos h2]

def nextL (L l : List TCount) : List TCount := l.foldl (fun a c => insL c a) L
theorem nextL_snoc (L l : List TCount) (c : TCount) : nextL L (l ++ [c]) = insL c (nextL L l) := by unfold nextL; rw [List.foldl_append]; rfl
theorem nextL_cons (L l : List TCount) (c : TCount) : nextL L (c :: l) = nextL (insL c L) l := rfl
theorem nextL_srt : ∀ (l L : List TCount), SrtL L → SrtL (nextL L l)
  | [], _, h => h
  | c :: l, L, h => nextL_srt l (insL c L) (insL_srt c L h)
theorem nextL_len : ∀ (l L : List TCount), (nextL L l).length ≤ L.length + l.length
  | [], L => Nat.le_refl _
  | c :: l, L => by
    have h1 := nextL_len l (insL c L)
    have h2 := insL_len c L
    rw [nextL_cons, List.length_cons]
    omega
theorem nextL_cnt (s : TStamp) : ∀ (l L : List TCount), SrtL L → cntL (nextL L l) s = cntL L s + totC l s
  | [], L, _ => by simp [nextL, totC]
  | c :: l, L, h => by
    rw [nextL_cons, nextL_cnt s l _ (insL_srt c L h), insL_cnt c s L h, totC_cons]
    omega
theorem nextL_keys (s : TStamp) : ∀ (l L : List TCount), s ∈ (nextL L l).map (·.fS) ↔ s ∈ L.map (·.fS) ∨ ∃ c ∈ l, c.fS = s
  | [], L => by simp [nextL]
  | c :: l, L => by
    rw [nextL_cons, nextL_keys s l, insL_keys]
    constructor
    · rintro ((h | h) | ⟨d, h, e⟩)
      · exact .inr ⟨c, by simp, h.symm⟩
      · exact .inl h
      · exact .inr ⟨d, by simp [h], e⟩
    · rintro (h | ⟨d, h, e⟩)
      · exact .inl (.inr h)
      · rcases List.mem_cons.1 h with rfl | h
        · exact .inl (.inl e.symm)
        · exact .inr ⟨d, h, e⟩
def leftL (M : List TCount) : List TCount := M.filter fun c => decide (c.fN ≠ 0)
def outC (c : TCount) : Bool := decide (4611686018427387904 < c.fN) || decide (c.fN < -4611686018427387904)
/-- What the document's Update answers, and what it keeps. -/
def updL (ops : List TOp) (L l : List TCount) : Int × List TCount :=
  if l.all (okC ops) = false then (1, L) else if (nextL L l).any outC then (14, L) else (0, leftL (nextL L l))
theorem leftL_srt {M : List TCount} (h : SrtL M) : SrtL (leftL M) := by
  unfold SrtL leftL at *
  exact h.sublist (List.filter_sublist.map _)
theorem IsAll.srt {cs : List (TStamp × Int)} {L : List TCount} (h : IsAll cs L) : SrtL L := h.sort
theorem IsAll.cnt {cs : List (TStamp × Int)} {L : List TCount} (h : IsAll cs L) (s : TStamp) : cntL L s = cntC cs s := by
  by_cases hm : s ∈ L.map (·.fS)
  · obtain ⟨c, hc, rfl⟩ := List.mem_map.1 hm
    rw [cntL_mem h.srt c hc, h.val c hc]
  · rw [cntL_out hm, cntC_out]
    intro p hp e
    exact hm (h.perm.mem_iff.2 (List.mem_map.2 ⟨p, hp, e⟩))
theorem nxL_has (s : TStamp) (l : List TCount) (h : ∃ c ∈ l, c.fS = s) : ∃ p ∈ nxL l, p.1 = s := by
  suffices H : ∀ (l : List TCount) (a : List (TStamp × Int)), ((∃ p ∈ a, p.1 = s) ∨ ∃ c ∈ l, c.fS = s) → ∃ p ∈ l.foldl nxC a, p.1 = s from H l [] (.inr h)
  intro l
  induction l with
  | nil =>
    rintro a (h | ⟨c, hc, _⟩)
    · exact h
    · cases hc
  | cons c l ih =>
    intro a h
    rw [List.foldl_cons]
    refine ih _ ?_
    by_cases e : c.fS = s
    · exact .inl ⟨_, List.mem_cons_self, e⟩
    · rcases h with ⟨p, hp, rfl⟩ | ⟨d, hd, rfl⟩
      · refine .inl ⟨p, ?_, rfl⟩
        unfold nxC setC delC
        exact List.mem_cons_of_mem _ (List.mem_filter.2 ⟨hp, by simpa using fun e' => e e'.symm⟩)
      · rcases List.mem_cons.1 hd with rfl | hd
        · exact absurd rfl e
        · exact .inr ⟨d, hd, rfl⟩
theorem tot_none {s : TStamp} : ∀ {l : List TCount}, (∀ d ∈ l, d.fS ≠ s) → totC l s = 0
  | [], _ => rfl
  | d :: l, h => by rw [totC_cons, if_neg (h d (by simp)), tot_none (fun x hx => h x (by simp [hx]))]; rfl
theorem upd_alike {ops : List TOp} {cs : List (TStamp × Int)} {L l : List TCount} (hA : IsAll cs L) (hz : ∀ p ∈ cs, p.2 ≠ 0 ∧ -4611686018427387904 ≤ p.2 ∧ p.2 ≤ 4611686018427387904) (hl : l.length ≤ 1073741824) :
    updE ops cs l = (updL ops L l).1 := by
  unfold updE updL
  by_cases h1 : l.all (okC ops) = false
  · rw [if_pos h1, if_pos h1]
  rw [if_neg h1, if_neg h1]
  have hok : l.all (okC ops) = true := by simpa using h1
  have hr := fun s => cntC_range hz s
  have ht := fun s => tot_range (ops := ops) s hok
  have hs := nextL_srt l L hA.srt
  have hw : ∀ s, wrap64 (cntC cs s + wrap64 (totC l s)) = cntC cs s + totC l s := fun s => by
    rw [wrap_add']
    exact IntWalk.wrap64_in _ (by have := hr s; have := ht s; omega)
  by_cases h2 : (nextL L l).any outC = true
  · rw [if_pos h2, if_neg]
    intro hp
    obtain ⟨c, hc, ho⟩ := List.any_eq_true.1 h2
    have e1 := cntL_mem hs c hc
    rw [nextL_cnt _ _ _ hA.srt, hA.cnt] at e1
    unfold outC at ho
    simp only [Bool.or_eq_true, decide_eq_true_eq] at ho
    rcases (nextL_keys c.fS l L).1 (List.mem_map.2 ⟨c, hc, rfl⟩) with hk | hk
    · by_cases hk2 : ∃ d ∈ l, d.fS = c.fS
      · obtain ⟨p, hp1, hp2⟩ := nxL_has _ l hk2
        have := hp p hp1
        unfold passC at this
        rw [nxL_val hp1, hw, hp2] at this
        omega
      · have h0 := tot_none (l := l) (s := c.fS) (fun d hd e => hk2 ⟨d, hd, e⟩)
        have := hr c.fS
        omega
    · obtain ⟨p, hp1, hp2⟩ := nxL_has _ l hk
      have := hp p hp1
      unfold passC at this
      rw [nxL_val hp1, hw, hp2] at this
      omega
  · rw [if_neg h2, if_pos]
    intro p hp
    obtain ⟨d, hd, e⟩ : ∃ c ∈ l, c.fS = p.1 := by
      have h3 := nxL_keys l l.length (Nat.le_refl _)
      rw [List.take_of_length_le (Nat.le_refl _)] at h3
      exact h3 p hp
    obtain ⟨c, hc, e2⟩ := List.mem_map.1 ((nextL_keys p.1 l L).2 (.inr ⟨d, hd, e⟩))
    have e1 := cntL_mem hs c hc
    rw [nextL_cnt _ _ _ hA.srt, hA.cnt, e2] at e1
    have ho : outC c = false := by
      cases h : outC c with
      | false => rfl
      | true => exact absurd (List.any_eq_true.2 ⟨c, hc, h⟩) h2
    unfold outC at ho
    simp only [Bool.or_eq_false_iff, decide_eq_false_iff_not] at ho
    unfold passC
    rw [nxL_val hp, hw, e1]
    omega
theorem upd_left {ops : List TOp} {cs cs' : List (TStamp × Int)} {L l : List TCount} (hA : IsAll cs L) (hz : ∀ p ∈ cs, p.2 ≠ 0 ∧ -4611686018427387904 ≤ p.2 ∧ p.2 ≤ 4611686018427387904) (hl : l.length ≤ 1073741824)
    (h0 : updE ops cs l = 0) (hn' : (cs'.map Prod.fst).Nodup) (hz' : ∀ p ∈ cs', p.2 ≠ 0 ∧ -4611686018427387904 ≤ p.2 ∧ p.2 ≤ 4611686018427387904) (he : ∀ s, cntC cs' s = wrap64 (cntC cs s + totC l s)) : IsAll cs' (updL ops L l).2 := by
  have hok := updE_ok h0
  have h1 := upd_alike (ops := ops) hA hz hl
  rw [h0] at h1
  have hM : (updL ops L l).2 = leftL (nextL L l) := by
    unfold updL at h1 ⊢
    rw [if_neg (by rw [hok]; simp)] at h1 ⊢
    split
    · rename_i h2
      rw [if_pos h2] at h1
      cases h1
    · rfl
  rw [hM]
  have hr := fun s => cntC_range hz s
  have ht := fun s => tot_range (ops := ops) s hok
  have hs := nextL_srt l L hA.srt
  have hw : ∀ s, cntC cs' s = cntC cs s + totC l s := fun s => by
    rw [he s]
    exact IntWalk.wrap64_in _ (by have := hr s; have := ht s; omega)
  have hv : ∀ c ∈ nextL L l, c.fN = cntC cs' c.fS := fun c hc => by
    rw [hw, ← cntL_mem hs c hc, nextL_cnt _ _ _ hA.srt, hA.cnt]
  have hnd : ((leftL (nextL L l)).map (·.fS)).Nodup := (leftL_srt hs).imp (fun {a b} h e => by rw [e] at h; exact ltS_irrefl _ h)
  refine ⟨(List.perm_ext_iff_of_nodup hnd hn').2 (fun s => ?_), leftL_srt hs, fun c hc => hv c (List.mem_filter.1 hc).1⟩
  rw [key_iff hn' hz']
  unfold leftL
  simp only [List.mem_map, List.mem_filter, decide_eq_true_eq]
  constructor
  · rintro ⟨c, ⟨h1, h2⟩, rfl⟩
    rw [← hv c h1]
    exact h2
  · intro h
    by_cases hm : s ∈ (nextL L l).map (·.fS)
    · obtain ⟨c, hc, rfl⟩ := List.mem_map.1 hm
      exact ⟨c, ⟨hc, by rw [hv c hc]; exact h⟩, rfl⟩
    · refine absurd ?_ h
      rw [hw, ← hA.cnt, ← nextL_cnt s l L hA.srt]
      exact cntL_out hm
end Go.Proofs.Ytbholbjegfnpdaa
