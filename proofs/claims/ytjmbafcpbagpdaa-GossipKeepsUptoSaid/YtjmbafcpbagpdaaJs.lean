/- Gossip: what is done in a view is done in truth: plain Lean. -/
import Derived.Test.YtjmbafcpbagpdaaJ2
namespace Go.Proofs.Ytjmbafcpbagpdaa
open Go.RowKit Go.Shelf Go.Maps
set_option linter.unusedVariables false
set_option linter.unusedSimpArgs false

theorem cld_trans {ops : List TOp} {a b c : TStamp} (h : cld ops a b = true) (k : cld ops b c = true) : cld ops a c = true := couldS_trans h k
theorem cld_good {ops : List TOp} {a b : TStamp} (h : cld ops a b = true) : goodS ops a.fLoc a.fT.fEpoch a.fT.fRound = true ∧ goodS ops b.fLoc b.fT.fEpoch b.fT.fRound = true := by
  obtain ⟨_, h2, h3, _⟩ := couldS_parts h
  exact ⟨h2, h3⟩
theorem cld_anti {ops : List TOp} {a b : TStamp} (h : cld ops a b = true) (k : cld ops b a = true) : a = b := by
  obtain ⟨h1, h2, h3, h4⟩ := couldS_parts h
  obtain ⟨_, _, _, k4⟩ := couldS_parts k
  have hG := okG_of_check h1
  obtain ⟨i, hi, _⟩ := goodS_in h2
  obtain ⟨j, hj, _⟩ := goodS_in h3
  unfold wayS at h4 k4
  by_cases e : a.fLoc = b.fLoc
  · rw [if_pos e] at h4
    rw [if_pos e.symm] at k4
    have h5 := (leT_iff _ _).1 h4
    have k5 := (leT_iff _ _).1 k4
    obtain ⟨al, ⟨ae, ar⟩⟩ := a
    obtain ⟨bl, ⟨be, br⟩⟩ := b
    simp only at e h5 k5
    obtain rfl := e
    obtain rfl : ae = be := by omega
    obtain rfl : ar = br := by omega
    rfl
  · rw [if_neg e, Bool.and_eq_true] at h4
    rw [if_neg (fun x => e x.symm), Bool.and_eq_true] at k4
    rw [hi, hj] at h4 k4
    rw [hi, hj] at e
    simp only [Int.toNat_natCast] at h4 k4
    rcases Nat.lt_trichotomy i j with x | x | x
    · have := rch_gt hG x
      rw [this] at k4
      exact absurd k4.1 (by simp)
    · exact absurd (by rw [x]) e
    · have := rch_gt hG x
      rw [this] at h4
      exact absurd h4.1 (by simp)
theorem exists_min {α : Type} (r : α → α → Prop) (hir : ∀ a, ¬ r a a) (htr : ∀ a b c, r a b → r b c → r a c) (P : α → Prop) : ∀ (K : List α), (∃ a ∈ K, P a) → ∃ a ∈ K, P a ∧ ∀ b ∈ K, P b → ¬ r b a
  | [], h => by obtain ⟨a, ha, _⟩ := h; cases ha
  | a :: K, h => by
    by_cases hk : ∃ b ∈ K, P b
    · obtain ⟨m, hm, hPm, hmin⟩ := exists_min r hir htr P K hk
      by_cases hr : P a ∧ r a m
      · refine ⟨a, by simp, hr.1, fun b hb hPb hba => ?_⟩
        rcases List.mem_cons.1 hb with rfl | hb
        · exact hir _ hba
        · exact hmin b hb hPb (htr _ _ _ hba hr.2)
      · refine ⟨m, by simp [hm], hPm, fun b hb hPb hbm => ?_⟩
        rcases List.mem_cons.1 hb with rfl | hb
        · exact hr ⟨hPb, hbm⟩
        · exact hmin b hb hPb hbm
    · obtain ⟨b, hb, hPb⟩ := h
      rcases List.mem_cons.1 hb with rfl | hb
      · refine ⟨b, by simp, hPb, fun c hc hPc hcb => ?_⟩
        rcases List.mem_cons.1 hc with rfl | hc
        · exact hir _ hcb
        · exact hk ⟨c, hc, hPc⟩
      · exact absurd ⟨b, hb, hPb⟩ hk

/-- All that is told in some lists. -/
def pendT (Ls : List (List TCount)) (s : TStamp) : Int := (Ls.map fun l => totC l s).sum
theorem pendT_nil (s : TStamp) : pendT [] s = 0 := rfl
theorem pendT_cons (l : List TCount) (Ls : List (List TCount)) (s : TStamp) : pendT (l :: Ls) s = totC l s + pendT Ls s := by unfold pendT; simp
theorem pendT_append (a b : List (List TCount)) (s : TStamp) : pendT (a ++ b) s = pendT a s + pendT b s := by unfold pendT; rw [List.map_append, List.sum_append]
/-- Each that is above 0 could come of one below 0. -/
def StandL (ops : List TOp) (l : List TCount) : Prop := ∀ s, 0 < totC l s → ∃ z, totC l z < 0 ∧ cld ops z s = true
theorem pend_pos {s : TStamp} : ∀ {Ls : List (List TCount)}, 0 < pendT Ls s → ∃ l ∈ Ls, 0 < totC l s
  | [], h => by rw [pendT_nil] at h; omega
  | l :: Ls, h => by
    rw [pendT_cons] at h
    by_cases hl : 0 < totC l s
    · exact ⟨l, by simp, hl⟩
    · obtain ⟨k, hk, h2⟩ := pend_pos (Ls := Ls) (s := s) (by omega)
      exact ⟨k, by simp [hk], h2⟩
theorem pend_le {s : TStamp} : ∀ {Ls : List (List TCount)}, (∀ l ∈ Ls, totC l s ≤ 0) → pendT Ls s ≤ 0
  | [], _ => by rw [pendT_nil]; omega
  | l :: Ls, h => by
    rw [pendT_cons]
    have h1 := h l (by simp)
    have h2 := pend_le (s := s) (Ls := Ls) (fun k hk => h k (by simp [hk]))
    omega
theorem pend_neg {s : TStamp} : ∀ {Ls : List (List TCount)}, (∀ l ∈ Ls, totC l s ≤ 0) → (∃ l ∈ Ls, totC l s ≠ 0) → pendT Ls s < 0
  | [], _, ⟨l, hl, _⟩ => by cases hl
  | l :: Ls, h, ⟨k, hk, hk0⟩ => by
    rw [pendT_cons]
    have h1 := h l (by simp)
    have h3 := pend_le (s := s) (Ls := Ls) (fun k hk => h k (by simp [hk]))
    rcases List.mem_cons.1 hk with rfl | hk
    · omega
    · have h2 := pend_neg (s := s) (Ls := Ls) (fun k hk => h k (by simp [hk])) ⟨k, hk, hk0⟩
      omega
theorem tot_noneJ {s : TStamp} : ∀ {l : List TCount}, (∀ d ∈ l, d.fS ≠ s) → totC l s = 0
  | [], _ => rfl
  | d :: l, h => by
    have h1 := tot_noneJ (l := l) (s := s) (fun x hx => h x (by simp [hx]))
    unfold totC at h1 ⊢
    rw [List.map_cons, List.sum_cons, h1, if_neg (h d (by simp))]
    rfl
theorem could_standsJ {ops : List TOp} {a s : TStamp} (hok : (gcheck ops).2 = 0) (ha : goodS ops a.fLoc a.fT.fEpoch a.fT.fRound = true) (hs : goodS ops s.fLoc s.fT.fEpoch s.fT.fRound = true) :
    couldS ops a.fLoc a.fT.fEpoch a.fT.fRound s.fLoc s.fT.fEpoch s.fT.fRound = stands ops s a := by
  unfold couldS wayS stands
  rw [ha, hs, decide_eq_true hok]
  by_cases h : a.fLoc = s.fLoc
  · simp [h, leT]
  · simp [h]
theorem tot_key {s : TStamp} {l : List TCount} (h : totC l s ≠ 0) : s ∈ l.map (·.fS) := by
  by_cases hs : s ∈ l.map (·.fS)
  · exact hs
  · exact absurd (tot_noneJ (fun d hd e => hs (List.mem_map.2 ⟨d, hd, e⟩))) h
/-- What could not come of a view's alive ones could not come of the truth's. -/
theorem safe_core {ops : List TOp} {T V : CF} {Ls : List (List TCount)} (hT : ∀ s, 0 ≤ T s) (hV : ∀ s, T s = V s + pendT Ls s) (hL : ∀ l ∈ Ls, StandL ops l) {x : TStamp} (hx : ∀ a, 0 < V a → cld ops a x = false) : ∀ a, 0 < T a → cld ops a x = false := by
  intro a ha
  cases hc : cld ops a x with
  | false => rfl
  | true =>
    exfalso
    have hVa : ¬ 0 < V a := fun h => by rw [hx a h] at hc; cases hc
    have hpa := hV a
    obtain ⟨l, hl, hla⟩ := pend_pos (Ls := Ls) (s := a) (by omega)
    have hkey : ∀ {y : TStamp} {k : List TCount}, k ∈ Ls → totC k y ≠ 0 → y ∈ Ls.flatMap (fun k => k.map (·.fS)) := fun hk h0 => List.mem_flatMap.2 ⟨_, hk, tot_key h0⟩
    obtain ⟨y, _, ⟨hyx, k, hk, hk0⟩, hmin⟩ := exists_min (fun u v => cld ops u v = true ∧ u ≠ v) (fun u h => h.2 rfl)
      (fun u v z h1 h2 => ⟨cld_trans h1.1 h2.1, fun e => by subst e; exact h1.2 (cld_anti h1.1 h2.1)⟩)
      (fun y => cld ops y x = true ∧ ∃ k ∈ Ls, totC k y ≠ 0) (Ls.flatMap (fun k => k.map (·.fS))) ⟨a, hkey hl (by omega), hc, l, hl, by omega⟩
    have hle : ∀ j ∈ Ls, totC j y ≤ 0 := fun j hj => by
      by_cases hp : 0 < totC j y
      · exfalso
        obtain ⟨z, hz, hzy⟩ := hL j hj y hp
        exact hmin z (hkey hj (by omega)) ⟨cld_trans hzy hyx, j, hj, by omega⟩ ⟨hzy, fun e => by subst e; omega⟩
      · omega
    have hneg := pend_neg hle ⟨k, hk, hk0⟩
    have h1 := hT y
    have h2 := hV y
    have := hx y (by omega)
    rw [this] at hyx
    cases hyx
/-- What could not come of the alive ones can't behind a list that stands. -/
theorem stays_core {ops : List TOp} {T : CF} {l : List TCount} (hl : StandL ops l) (hT : ∀ s, totC l s < 0 → 0 < T s) {x : TStamp} (hx : ∀ a, 0 < T a → cld ops a x = false) : ∀ a, 0 < T a + totC l a → cld ops a x = false := by
  intro a ha
  by_cases h : 0 < T a
  · exact hx a h
  · obtain ⟨z, hz, hza⟩ := hl a (by omega)
    cases hc : cld ops a x with
    | false => rfl
    | true =>
      have := hx z (hT z hz)
      rw [cld_trans hza hc] at this
      cases this
open Classical in
/-- Is s done, as these counts tell? -/
noncomputable def doneF (ops : List TOp) (c : CF) (s : TStamp) : Bool := goodS ops s.fLoc s.fT.fEpoch s.fT.fRound && decide (∀ a, 0 < c a → stands ops s a = false)
open Classical in
theorem done_cs {ops : List TOp} {cs : List (TStamp × Int)} (hn : (cs.map Prod.fst).Nodup) (s : TStamp) : doneC ops (aliveC cs) s = doneF ops (cntC cs) s := by
  unfold doneC doneF
  congr 1
  rw [Bool.eq_iff_iff]
  simp only [Bool.not_eq_true', List.any_eq_false, decide_eq_true_eq]
  constructor
  · intro h a ha
    have := h a ((alive_mem hn a).2 ha)
    simpa using this
  · intro h a ha
    have := h a ((alive_mem hn a).1 ha)
    simpa using this
open Classical in
theorem doneF_iff {ops : List TOp} {c : CF} (hok : (gcheck ops).2 = 0) (hc : ∀ a, c a ≠ 0 → goodS ops a.fLoc a.fT.fEpoch a.fT.fRound = true) (s : TStamp) : doneF ops c s = true ↔ goodS ops s.fLoc s.fT.fEpoch s.fT.fRound = true ∧ ∀ a, 0 < c a → cld ops a s = false := by
  unfold doneF
  rw [Bool.and_eq_true, decide_eq_true_eq]
  refine ⟨fun ⟨h1, h2⟩ => ⟨h1, fun a ha => ?_⟩, fun ⟨h1, h2⟩ => ⟨h1, fun a ha => ?_⟩⟩
  · unfold cld
    rw [could_standsJ hok (hc a (by omega)) h1]
    exact h2 a ha
  · rw [← could_standsJ hok (hc a (by omega)) h1]
    exact h2 a ha
end Go.Proofs.Ytjmbafcpbagpdaa
