/- Stamp: fronts of times: plain Lean. -/
import Derived.Test.YtjmbafcpbagpdaaGreatTyStamp
import Derived.Test.YtjmbafcpbagpdaaGreatL1
import Derived.WalkKit
import Derived.WalkSpells
import Derived.WalkLawsBesides
import Derived.Deep.QuietTactic
import Derived.BigQuiet
namespace Go.Proofs.YtjmbafcpbagpdaaGreat


def goodT (t : TTime) : Bool := decide (0 ≤ t.fEpoch ∧ 0 ≤ t.fRound)
def leT (a b : TTime) : Bool := decide (a.fEpoch ≤ b.fEpoch ∧ a.fRound ≤ b.fRound)
def sameT (a b : TTime) : Bool := decide (a.fEpoch = b.fEpoch ∧ a.fRound = b.fRound)
theorem TTime.ext' {a b : TTime} (h1 : a.fEpoch = b.fEpoch) (h2 : a.fRound = b.fRound) : a = b := by
  cases a; cases b; simp_all
theorem sameT_iff (a b : TTime) : sameT a b = true ↔ a = b := by
  unfold sameT
  rw [decide_eq_true_iff]
  exact ⟨fun h => TTime.ext' h.1 h.2, fun h => by rw [h]; exact ⟨rfl, rfl⟩⟩
theorem leT_iff (a b : TTime) : leT a b = true ↔ a.fEpoch ≤ b.fEpoch ∧ a.fRound ≤ b.fRound := by unfold leT; rw [decide_eq_true_iff]
theorem leT_refl (a : TTime) : leT a a = true := by rw [leT_iff]; omega
theorem leT_trans {a b c : TTime} (h : leT a b = true) (k : leT b c = true) : leT a c = true := by rw [leT_iff] at *; omega
theorem leT_antisymm {a b : TTime} (h : leT a b = true) (k : leT b a = true) : a = b := by rw [leT_iff] at *; exact TTime.ext' (by omega) (by omega)

def coversT (l : List TTime) (t : TTime) : Bool := l.any fun f => goodT f && leT f t
def sameTs (a b : List TTime) : Bool := decide (a.length = b.length) && (a.zip b).all fun p => sameT p.1 p.2
theorem sameTs_self (a : List TTime) : sameTs a a = true := by
  unfold sameTs
  simp only [decide_true, Bool.true_and, List.all_eq_true]
  intro p hp
  have : p.1 = p.2 := by
    induction a with
    | nil => simp at hp
    | cons x r ih =>
      simp only [List.zip_cons_cons, List.mem_cons] at hp
      rcases hp with rfl | hp
      · rfl
      · exact ih hp
  rw [this]; exact (sameT_iff _ _).2 rfl

/-- A least one of l. -/
def MinT (l : List TTime) (x : TTime) : Prop := x ∈ l ∧ goodT x = true ∧ ∀ o ∈ l, goodT o = true → leT o x = true → o = x
/-- The front of l: its least ones, their epochs rising. -/
structure IsFront (l f : List TTime) : Prop where
  asc : f.Pairwise fun a b => a.fEpoch < b.fEpoch
  mem : ∀ x, x ∈ f ↔ MinT l x

theorem asc_unique : ∀ {f g : List TTime}, f.Pairwise (fun a b => a.fEpoch < b.fEpoch) → g.Pairwise (fun a b => a.fEpoch < b.fEpoch) → (∀ x, x ∈ f ↔ x ∈ g) → f = g
  | [], [], _, _, _ => rfl
  | [], y :: g, _, _, h => absurd ((h y).2 (by simp)) (by simp)
  | x :: f, [], _, _, h => absurd ((h x).1 (by simp)) (by simp)
  | x :: f, y :: g, hf, hg, h => by
    rw [List.pairwise_cons] at hf hg
    have hxy : x = y := by
      have h1 := (h x).1 (by simp)
      have h2 := (h y).2 (by simp)
      rcases List.mem_cons.1 h1 with h1 | h1
      · exact h1
      · rcases List.mem_cons.1 h2 with h2 | h2
        · exact h2.symm
        · have := hg.1 x h1; have := hf.1 y h2; omega
    subst hxy
    have := asc_unique hf.2 hg.2 (fun z => by
      have hz := h z
      simp only [List.mem_cons] at hz
      constructor
      · intro hzf
        rcases hz.1 (.inr hzf) with rfl | h1
        · have := hf.1 z hzf; omega
        · exact h1
      · intro hzg
        rcases hz.2 (.inr hzg) with rfl | h1
        · have := hg.1 z hzg; omega
        · exact h1)
    rw [this]

theorem IsFront.unique {l f g : List TTime} (hf : IsFront l f) (hg : IsFront l g) : f = g :=
  asc_unique hf.asc hg.asc fun x => (hf.mem x).trans (hg.mem x).symm
theorem MinT.congr {l m : List TTime} (h : ∀ x, x ∈ l ↔ x ∈ m) (x : TTime) : MinT l x ↔ MinT m x := by
  unfold MinT
  rw [h x]
  constructor
  · rintro ⟨a, b, c⟩; exact ⟨a, b, fun o ho => c o ((h o).2 ho)⟩
  · rintro ⟨a, b, c⟩; exact ⟨a, b, fun o ho => c o ((h o).1 ho)⟩
theorem IsFront.congr {l m f : List TTime} (h : ∀ x, x ∈ l ↔ x ∈ m) (hf : IsFront l f) : IsFront m f := ⟨hf.asc, fun x => (hf.mem x).trans (MinT.congr h x)⟩

/-- Below each right one of l lies a least one. -/
theorem min_below (l : List TTime) (x : TTime) (hx : x ∈ l) (hg : goodT x = true) : ∃ y, MinT l y ∧ leT y x = true := by
  suffices H : ∀ (n : Nat) (x : TTime), (x.fEpoch + x.fRound).toNat < n → x ∈ l → goodT x = true → ∃ y, MinT l y ∧ leT y x = true from H _ x (Nat.lt_succ_self _) hx hg
  intro n
  induction n with
  | zero => intro x h; omega
  | succ n ih =>
    intro x hn hx hg
    by_cases hm : ∀ o ∈ l, goodT o = true → leT o x = true → o = x
    · exact ⟨x, ⟨hx, hg, hm⟩, leT_refl x⟩
    · have hm' : ∃ o, o ∈ l ∧ goodT o = true ∧ leT o x = true ∧ o ≠ x := by
        false_or_by_contra
        rename_i hc
        exact hm fun o h1 h2 h3 => Classical.byContradiction fun h4 => hc ⟨o, h1, h2, h3, h4⟩
      obtain ⟨o, h1, h2, h3, h4⟩ := hm'
      have h5 : (o.fEpoch + o.fRound).toNat < n := by
        have h6 := (leT_iff o x).1 h3
        have h7 : ¬ (o.fEpoch = x.fEpoch ∧ o.fRound = x.fRound) := fun h => h4 (TTime.ext' h.1 h.2)
        have h8 : 0 ≤ o.fEpoch ∧ 0 ≤ o.fRound := by unfold goodT at h2; exact of_decide_eq_true h2
        omega
      obtain ⟨y, h6, h7⟩ := ih o h5 h1 h2
      exact ⟨y, h6, leT_trans h7 h3⟩

theorem IsFront.covers {l f : List TTime} (h : IsFront l f) (t : TTime) : coversT f t = coversT l t := by
  rw [Bool.eq_iff_iff]
  unfold coversT
  simp only [List.any_eq_true, Bool.and_eq_true]
  constructor
  · rintro ⟨x, hx, hg, hl⟩
    exact ⟨x, ((h.mem x).1 hx).1, hg, hl⟩
  · rintro ⟨x, hx, hg, hl⟩
    obtain ⟨y, hy, hyx⟩ := min_below l x hx hg
    exact ⟨y, (h.mem y).2 hy, hy.2.1, leT_trans hyx hl⟩

/-! The program's way: the candidates in order, then sorted. -/
def skipT (l : List TTime) (i : Nat) (t : TTime) : Bool := !goodT t || (List.range l.length).any fun k => match l[k]? with
  | some o => goodT o && leT o t && (!sameT o t || decide (k < i))
  | none => false
def candT (l : List TTime) : Nat → List TTime
  | 0 => []
  | i + 1 => match l[i]? with
    | some t => if skipT l i t then candT l i else candT l i ++ [t]
    | none => candT l i

theorem skipT_false {l : List TTime} {i : Nat} {t : TTime} (h : skipT l i t = false) : goodT t = true ∧ ∀ k (hk : k < l.length), goodT l[k] = true → leT l[k] t = true → l[k] = t ∧ i ≤ k := by
  unfold skipT at h
  rw [Bool.or_eq_false_iff] at h
  refine ⟨by simpa using h.1, fun k hk hg hl => ?_⟩
  have h2 := h.2
  rw [List.any_eq_false] at h2
  have h3 := h2 k (List.mem_range.2 hk)
  simp only [List.getElem?_eq_getElem hk, hg, hl, Bool.true_and, Bool.or_eq_true, not_or, Bool.not_eq_true', decide_eq_true_eq, Nat.not_lt, Bool.not_eq_false] at h3
  exact ⟨(sameT_iff _ _).1 h3.1, h3.2⟩
theorem skipT_true {l : List TTime} {i : Nat} {t : TTime} (h : skipT l i t = true) : goodT t = false ∨ ∃ k, ∃ hk : k < l.length, goodT l[k] = true ∧ leT l[k] t = true ∧ (l[k] ≠ t ∨ k < i) := by
  unfold skipT at h
  rw [Bool.or_eq_true] at h
  rcases h with h | h
  · left; simpa using h
  · right
    obtain ⟨k, hk, h⟩ := List.any_eq_true.1 h
    have hk := List.mem_range.1 hk
    rw [List.getElem?_eq_getElem hk] at h
    simp only [Bool.and_eq_true, Bool.or_eq_true, decide_eq_true_eq, Bool.not_eq_true'] at h
    refine ⟨k, hk, h.1.1, h.1.2, ?_⟩
    rcases h.2 with h | h
    · left; intro e; rw [(sameT_iff _ _).2 e] at h; cases h
    · exact .inr h

theorem candT_mem (l : List TTime) (n : Nat) (hn : n ≤ l.length) (x : TTime) : x ∈ candT l n ↔ ∃ i, ∃ hi : i < l.length, i < n ∧ l[i] = x ∧ skipT l i x = false := by
  induction n with
  | zero => simp [candT]
  | succ n ih =>
    have ih := ih (by omega)
    simp only [candT, List.getElem?_eq_getElem (show n < l.length by omega)]
    by_cases hs : skipT l n l[n] = true
    · rw [if_pos hs, ih]
      constructor
      · rintro ⟨i, hi, h1, h2, h3⟩; exact ⟨i, hi, by omega, h2, h3⟩
      · rintro ⟨i, hi, h1, h2, h3⟩
        refine ⟨i, hi, ?_, h2, h3⟩
        by_cases h : i = n
        · subst h; rw [h2, h3] at hs; cases hs
        · omega
    · rw [if_neg hs, List.mem_append, ih, List.mem_singleton]
      constructor
      · rintro (⟨i, hi, h1, h2, h3⟩ | rfl)
        · exact ⟨i, hi, by omega, h2, h3⟩
        · exact ⟨n, by omega, by omega, rfl, by simpa using hs⟩
      · rintro ⟨i, hi, h1, h2, h3⟩
        by_cases h : i = n
        · subst h; exact .inr h2.symm
        · exact .inl ⟨i, hi, by omega, h2, h3⟩

theorem candT_min (l : List TTime) (x : TTime) : x ∈ candT l l.length ↔ MinT l x := by
  rw [candT_mem l _ (Nat.le_refl _)]
  constructor
  · rintro ⟨i, hi, _, rfl, h3⟩
    obtain ⟨hg, h4⟩ := skipT_false h3
    refine ⟨List.getElem_mem _, hg, fun o ho hgo hlo => ?_⟩
    obtain ⟨k, hk, rfl⟩ := List.getElem_of_mem ho
    exact (h4 k hk hgo hlo).1
  · rintro ⟨hx, hg, hm⟩
    -- the first place of x
    have : ∃ i, ∃ hi : i < l.length, l[i] = x ∧ ∀ k (hk : k < l.length), l[k] = x → i ≤ k := by
      clear hm
      induction l with
      | nil => simp at hx
      | cons y r ih =>
        by_cases h : y = x
        · exact ⟨0, by simp, h, fun k _ _ => Nat.zero_le _⟩
        · have hx' : x ∈ r := by
            rcases List.mem_cons.1 hx with e | e
            · exact absurd e.symm h
            · exact e
          obtain ⟨i, hi, h1, h2⟩ := ih hx'
          refine ⟨i + 1, by simpa using hi, by simpa using h1, fun k hk hkx => ?_⟩
          cases k with
          | zero => exact absurd (by simpa using hkx) h
          | succ k => have := h2 k (by simpa using hk) (by simpa using hkx); omega
    obtain ⟨i, hi, h1, h2⟩ := this
    refine ⟨i, hi, hi, h1, ?_⟩
    cases hs : skipT l i x with
    | false => rfl
    | true =>
      rcases skipT_true hs with h | ⟨k, hk, hgk, hlk, h⟩
      · rw [hg] at h; cases h
      · have he := hm l[k] (List.getElem_mem _) hgk hlk
        rcases h with h | h
        · exact absurd he h
        · have := h2 k hk he; omega

theorem candT_prefix (l : List TTime) {a b : Nat} (h : a ≤ b) : candT l a <+: candT l b := by
  obtain ⟨c, rfl⟩ : ∃ c, b = a + c := ⟨b - a, by omega⟩
  induction c with
  | zero => exact List.prefix_refl _
  | succ c ih =>
    refine (ih (by omega)).trans ?_
    rw [← Nat.add_assoc, candT]
    split
    · split
      · exact List.prefix_refl _
      · exact List.prefix_append _ _
    · exact List.prefix_refl _
theorem candT_len (l : List TTime) (n : Nat) : (candT l n).length ≤ n := by
  induction n with
  | zero => simp [candT]
  | succ n ih =>
    rw [candT]
    split
    · split
      · omega
      · simp; omega
    · omega

theorem minT_epoch {l : List TTime} {x y : TTime} (hx : MinT l x) (hy : MinT l y) (h : x.fEpoch = y.fEpoch) : x = y := by
  by_cases hr : x.fRound ≤ y.fRound
  · exact hy.2.2 x hx.1 hx.2.1 ((leT_iff _ _).2 ⟨by omega, hr⟩)
  · exact (hx.2.2 y hy.1 hy.2.1 ((leT_iff _ _).2 ⟨by omega, by omega⟩)).symm
/-- No two candidates have one epoch. -/
theorem candT_apart (l : List TTime) (n : Nat) (hn : n ≤ l.length) : (candT l n).Pairwise fun a b => a.fEpoch ≠ b.fEpoch := by
  induction n with
  | zero => simp [candT]
  | succ n ih =>
    have ih := ih (by omega)
    have hpre : ∀ x ∈ candT l (n + 1), MinT l x := fun x hx => (candT_min l x).1 ((candT_prefix l hn).subset hx)
    obtain ⟨t, ht⟩ : ∃ t, l[n]? = some t := ⟨_, List.getElem?_eq_getElem (by omega)⟩
    simp only [candT, ht] at hpre ⊢
    by_cases hs : skipT l n t = true
    · rw [if_pos hs]; exact ih
    · rw [if_neg hs] at hpre ⊢
      rw [List.pairwise_append]
      refine ⟨ih, by simp, fun a ha b hb => ?_⟩
      have hbe : b = t := by simpa using hb
      subst hbe
      intro he
      have hab := minT_epoch (hpre a (by simp [ha])) (hpre b (by simp)) he
      subst hab
      obtain ⟨i, hi, h1, h2, h3⟩ := (candT_mem l n (by omega) a).1 ha
      have hsf : skipT l n a = false := by simpa using hs
      obtain ⟨hg, h4⟩ := skipT_false hsf
      have := (h4 i hi (by rw [h2]; exact hg) (by rw [h2]; exact leT_refl a)).2
      omega

/-- A permutation of the candidates in which no epoch falls is the front. -/
theorem front_of_sorted {l f : List TTime} (hp : f.Perm (candT l l.length)) (hs : f.Pairwise fun a b => a.fEpoch ≤ b.fEpoch) : IsFront l f := by
  refine ⟨?_, fun x => (hp.mem_iff).trans (candT_min l x)⟩
  have h1 : f.Pairwise fun a b => a.fEpoch ≠ b.fEpoch := hp.symm.pairwise (candT_apart l _ (Nat.le_refl _)) (fun h e => h e.symm)
  exact (hs.and h1).imp fun h => by omega

/-! The document's way: one by one. -/
def leftT (t : TTime) : List TTime → Bool → List TTime
  | [], done => if done then [] else [t]
  | o :: r, done =>
    if leT t o then leftT t r done
    else if !done && decide (t.fEpoch < o.fEpoch) then t :: o :: leftT t r true
    else o :: leftT t r done
def stepT (out : List TTime) (t : TTime) : List TTime := if !goodT t || coversT out t then out else leftT t out false
def frontT (l : List TTime) : List TTime := l.foldl stepT []

theorem leftT_mem (t : TTime) : ∀ (l : List TTime) (done : Bool) (x : TTime), x ∈ leftT t l done ↔ (x ∈ l ∧ leT t x = false) ∨ (done = false ∧ x = t)
  | [], done, x => by cases done <;> simp [leftT]
  | o :: r, done, x => by
    rw [leftT]
    have ih1 := leftT_mem t r done x
    have ih2 := leftT_mem t r true x
    cases hle : leT t o with
    | true =>
      simp only [if_true, ih1, List.mem_cons]
      constructor
      · rintro (⟨h1, h2⟩ | h)
        · exact .inl ⟨.inr h1, h2⟩
        · exact .inr h
      · rintro (⟨rfl | h1, h2⟩ | h)
        · rw [hle] at h2; cases h2
        · exact .inl ⟨h1, h2⟩
        · exact .inr h
    | false =>
      simp only [Bool.false_eq_true, if_false]
      cases hd : (!done && decide (t.fEpoch < o.fEpoch)) with
      | true =>
        have hdone : done = false := by simp at hd; exact hd.1
        subst hdone
        simp only [if_true, List.mem_cons, ih2]
        constructor
        · rintro (rfl | rfl | ⟨h1, h2⟩ | ⟨h, _⟩)
          · exact .inr ⟨trivial, rfl⟩
          · exact .inl ⟨.inl rfl, hle⟩
          · exact .inl ⟨.inr h1, h2⟩
          · cases h
        · rintro (⟨rfl | h1, h2⟩ | ⟨_, rfl⟩)
          · exact .inr (.inl rfl)
          · exact .inr (.inr (.inl ⟨h1, h2⟩))
          · exact .inl rfl
      | false =>
        simp only [Bool.false_eq_true, if_false, List.mem_cons, ih1]
        constructor
        · rintro (rfl | ⟨h1, h2⟩ | h)
          · exact .inl ⟨.inl rfl, hle⟩
          · exact .inl ⟨.inr h1, h2⟩
          · exact .inr h
        · rintro (⟨rfl | h1, h2⟩ | h)
          · exact .inl rfl
          · exact .inr (.inl ⟨h1, h2⟩)
          · exact .inr (.inr h)

/-- Where no one kept lies at or above t at the same epoch, all stays rising. -/
theorem leftT_asc (t : TTime) : ∀ (l : List TTime) (done : Bool), l.Pairwise (fun a b => a.fEpoch < b.fEpoch) → (∀ o ∈ l, leT t o = false → o.fEpoch ≠ t.fEpoch) → (done = true → ∀ o ∈ l, t.fEpoch < o.fEpoch) →
    (leftT t l done).Pairwise fun a b => a.fEpoch < b.fEpoch
  | [], done, _, _, _ => by cases done <;> simp [leftT]
  | o :: r, done, h, hn, hd => by
    rw [List.pairwise_cons] at h
    rw [leftT]
    have hnr : ∀ o ∈ r, leT t o = false → o.fEpoch ≠ t.fEpoch := fun o ho => hn o (by simp [ho])
    have hdr : done = true → ∀ o ∈ r, t.fEpoch < o.fEpoch := fun e o ho => hd e o (by simp [ho])
    split
    · exact leftT_asc t r done h.2 hnr hdr
    · rename_i hle
      have hle : leT t o = false := by simpa using hle
      have hno := hn o (by simp) hle
      split
      · rename_i hlt
        simp only [Bool.and_eq_true, Bool.not_eq_true', decide_eq_true_eq] at hlt
        have ih := leftT_asc t r true h.2 hnr (fun _ x hx => by have := h.1 x hx; omega)
        rw [List.pairwise_cons, List.pairwise_cons]
        have hmem : ∀ x ∈ leftT t r true, o.fEpoch < x.fEpoch := fun x hx => by
          rcases (leftT_mem t r true x).1 hx with ⟨h1, _⟩ | ⟨h1, _⟩
          · exact h.1 x h1
          · cases h1
        refine ⟨fun x hx => ?_, hmem, ih⟩
        rcases List.mem_cons.1 hx with rfl | hx
        · exact hlt.2
        · have := hmem x hx; omega
      · rename_i hlt
        have ih := leftT_asc t r done h.2 hnr hdr
        rw [List.pairwise_cons]
        refine ⟨fun x hx => ?_, ih⟩
        rcases (leftT_mem t r done x).1 hx with ⟨h1, _⟩ | ⟨h1, rfl⟩
        · exact h.1 x h1
        · simp only [h1, Bool.not_false, Bool.true_and, decide_eq_true_eq] at hlt
          omega

theorem stepT_front {l out : List TTime} (t : TTime) (h : IsFront l out) : IsFront (l ++ [t]) (stepT out t) := by
  unfold stepT
  by_cases hg : goodT t = true
  · cases hc : coversT out t with
    | true =>
      simp only [hg, Bool.not_true, Bool.false_or, if_true]
      refine ⟨h.asc, fun x => ?_⟩
      rw [h.mem]
      have hc2 : ∃ y, MinT l y ∧ leT y t = true := by
        unfold coversT at hc
        obtain ⟨y, hy, hyt⟩ := List.any_eq_true.1 hc
        simp only [Bool.and_eq_true] at hyt
        exact ⟨y, (h.mem y).1 hy, hyt.2⟩
      obtain ⟨y, hy, hyt⟩ := hc2
      constructor
      · rintro ⟨h1, h2, h3⟩
        refine ⟨by simp [h1], h2, fun o ho hgo hlo => ?_⟩
        rcases List.mem_append.1 ho with ho | ho
        · exact h3 o ho hgo hlo
        · obtain rfl : o = t := by simpa using ho
          have hyx := h3 y hy.1 hy.2.1 (leT_trans hyt hlo)
          subst hyx
          exact leT_antisymm hlo hyt
      · rintro ⟨h1, h2, h3⟩
        refine ⟨?_, h2, fun o ho => h3 o (by simp [ho])⟩
        rcases List.mem_append.1 h1 with h1 | h1
        · exact h1
        · obtain rfl : x = t := by simpa using h1
          have := h3 y (by simp [hy.1]) hy.2.1 hyt
          rw [← this]; exact hy.1
    | false =>
      simp only [hg, Bool.not_true, Bool.false_or, Bool.false_eq_true, if_false]
      have hnc : ∀ y ∈ l, goodT y = true → leT y t = false := by
        intro y hy hgy
        cases hyt : leT y t with
        | false => rfl
        | true =>
          obtain ⟨z, hz, hzy⟩ := min_below l y hy hgy
          have : coversT out t = true := by
            unfold coversT
            exact List.any_eq_true.2 ⟨z, (h.mem z).2 hz, by simp [hz.2.1, leT_trans hzy hyt]⟩
          rw [this] at hc; cases hc
      refine ⟨leftT_asc t out false h.asc (fun o ho hle he => ?_) (by simp), fun x => ?_⟩
      · have hm := (h.mem o).1 ho
        have := hnc o hm.1 hm.2.1
        have h1 : ¬ (t.fEpoch ≤ o.fEpoch ∧ t.fRound ≤ o.fRound) := fun h2 => by rw [(leT_iff _ _).2 h2] at hle; cases hle
        have h2 : ¬ (o.fEpoch ≤ t.fEpoch ∧ o.fRound ≤ t.fRound) := fun h2 => by rw [(leT_iff _ _).2 h2] at this; cases this
        omega
      · rw [leftT_mem]
        constructor
        · rintro (⟨h1, h2⟩ | ⟨_, rfl⟩)
          · have hm := (h.mem x).1 h1
            refine ⟨by simp [hm.1], hm.2.1, fun o ho hgo hlo => ?_⟩
            rcases List.mem_append.1 ho with ho | ho
            · exact hm.2.2 o ho hgo hlo
            · obtain rfl : o = t := by simpa using ho
              rw [hlo] at h2; cases h2
          · refine ⟨by simp, hg, fun o ho hgo hlo => ?_⟩
            rcases List.mem_append.1 ho with ho | ho
            · rw [hnc o ho hgo] at hlo; cases hlo
            · simpa using ho
        · rintro ⟨h1, h2, h3⟩
          by_cases hxt : x = t
          · exact .inr ⟨rfl, hxt⟩
          · have hxl : x ∈ l := by
              rcases List.mem_append.1 h1 with h1 | h1
              · exact h1
              · exact absurd (by simpa using h1) hxt
            refine .inl ⟨(h.mem x).2 ⟨hxl, h2, fun o ho => h3 o (by simp [ho])⟩, ?_⟩
            cases hle : leT t x with
            | false => rfl
            | true => exact absurd (h3 t (by simp) hg hle).symm hxt
  · have hg : goodT t = false := by simpa using hg
    simp only [hg, Bool.not_false, Bool.true_or, if_true]
    refine ⟨h.asc, fun x => (h.mem x).trans ?_⟩
    constructor
    · rintro ⟨h1, h2, h3⟩
      refine ⟨by simp [h1], h2, fun o ho hgo hlo => ?_⟩
      rcases List.mem_append.1 ho with ho | ho
      · exact h3 o ho hgo hlo
      · obtain rfl : o = t := by simpa using ho
        rw [hgo] at hg; cases hg
    · rintro ⟨h1, h2, h3⟩
      refine ⟨?_, h2, fun o ho => h3 o (by simp [ho])⟩
      rcases List.mem_append.1 h1 with h1 | h1
      · exact h1
      · obtain rfl : x = t := by simpa using h1
        rw [h2] at hg; cases hg

theorem frontT_front (l : List TTime) : IsFront l (frontT l) := by
  suffices H : ∀ (l m out : List TTime), IsFront m out → IsFront (m ++ l) (l.foldl stepT out) by
    have := H l [] [] ⟨List.Pairwise.nil, fun x => by simp [MinT]⟩
    simpa [frontT] using this
  intro l
  induction l with
  | nil => intro m out h; simpa using h
  | cons t r ih =>
    intro m out h
    have := ih (m ++ [t]) (stepT out t) (stepT_front t h)
    simpa using this
end Go.Proofs.YtjmbafcpbagpdaaGreat

/- Stamp: Good, Le, Join, Meet, Out, Around, and the document's Good, Le, Same. -/
namespace Go.Proofs.YtjmbafcpbagpdaaGreat
open Go.RowKit
set_option linter.unusedVariables false

set_option maxHeartbeats 400000 in
theorem good_any (e r : Int) (w : World) :
    Calls Tryz.prog 73 #[.agg #[.int .i64 e, .int .i64 r]] w fun x w' => x = .returned (.bool (goodT ⟨e, r⟩)) ∧ Below w.heap.size w w' := by
  by_cases h1 : 0 ≤ e
  · by_cases h2 : 0 ≤ r
    · rw [show goodT ⟨e, r⟩ = true by simp [goodT, h1, h2]]
      go_enter Tryz.func73, Tryz.ntmps73
      go_wp2
      go_ret
      exact ⟨rfl, (by repeat (first | exact Below.refl _ _ | refine below_drewN ?_ _ | refine Below.drew ?_ | (refine Below.alloc ?_ (by simp; try omega) _)))⟩
    · rw [show goodT ⟨e, r⟩ = false by simp [goodT, h1, h2]]
      go_enter Tryz.func73, Tryz.ntmps73
      go_wp2
      go_ret
      exact ⟨rfl, (by repeat (first | exact Below.refl _ _ | refine below_drewN ?_ _ | refine Below.drew ?_ | (refine Below.alloc ?_ (by simp; try omega) _)))⟩
  · rw [show goodT ⟨e, r⟩ = false by simp [goodT, h1]]
    go_enter Tryz.func73, Tryz.ntmps73
    go_wp2
    go_ret
    exact ⟨rfl, (by repeat (first | exact Below.refl _ _ | refine below_drewN ?_ _ | refine Below.drew ?_ | (refine Below.alloc ?_ (by simp; try omega) _)))⟩
theorem good_t (x : TTime) (w : World) :
    Calls Tryz.prog 73 #[.agg #[.int .i64 x.fEpoch, .int .i64 x.fRound]] w fun e w' => e = .returned (.bool (goodT x)) ∧ Below w.heap.size w w' := good_any x.fEpoch x.fRound w

set_option maxHeartbeats 400000 in
theorem rgood_any (e r : Int) (w : World) :
    Calls Tryz.prog 57 #[.agg #[.int .i64 e, .int .i64 r]] w fun x w' => x = .returned (.bool (goodT ⟨e, r⟩)) ∧ Below w.heap.size w w' := by
  by_cases h1 : 0 ≤ e
  · by_cases h2 : 0 ≤ r
    · rw [show goodT ⟨e, r⟩ = true by simp [goodT, h1, h2]]
      go_enter Tryz.func57, Tryz.ntmps57
      go_wp2
      go_ret
      exact ⟨rfl, (by repeat (first | exact Below.refl _ _ | refine below_drewN ?_ _ | refine Below.drew ?_ | (refine Below.alloc ?_ (by simp; try omega) _)))⟩
    · rw [show goodT ⟨e, r⟩ = false by simp [goodT, h1, h2]]
      go_enter Tryz.func57, Tryz.ntmps57
      go_wp2
      go_ret
      exact ⟨rfl, (by repeat (first | exact Below.refl _ _ | refine below_drewN ?_ _ | refine Below.drew ?_ | (refine Below.alloc ?_ (by simp; try omega) _)))⟩
  · rw [show goodT ⟨e, r⟩ = false by simp [goodT, h1]]
    go_enter Tryz.func57, Tryz.ntmps57
    go_wp2
    go_ret
    exact ⟨rfl, (by repeat (first | exact Below.refl _ _ | refine below_drewN ?_ _ | refine Below.drew ?_ | (refine Below.alloc ?_ (by simp; try omega) _)))⟩
theorem rgood_t (x : TTime) (w : World) :
    Calls Tryz.prog 57 #[.agg #[.int .i64 x.fEpoch, .int .i64 x.fRound]] w fun e w' => e = .returned (.bool (goodT x)) ∧ Below w.heap.size w w' := rgood_any x.fEpoch x.fRound w

set_option maxHeartbeats 400000 in
theorem le_any (a b c d : Int) (w : World) :
    Calls Tryz.prog 74 #[.agg #[.int .i64 a, .int .i64 b], .agg #[.int .i64 c, .int .i64 d]] w fun x w' => x = .returned (.bool (leT ⟨a, b⟩ ⟨c, d⟩)) ∧ Below w.heap.size w w' := by
  by_cases h1 : a ≤ c
  · by_cases h2 : b ≤ d
    · rw [show leT ⟨a, b⟩ ⟨c, d⟩ = true by simp [leT, h1, h2]]
      go_enter Tryz.func74, Tryz.ntmps74
      go_wp2
      go_ret
      exact ⟨rfl, (by repeat (first | exact Below.refl _ _ | refine below_drewN ?_ _ | refine Below.drew ?_ | (refine Below.alloc ?_ (by simp; try omega) _)))⟩
    · rw [show leT ⟨a, b⟩ ⟨c, d⟩ = false by simp [leT, h1, h2]]
      go_enter Tryz.func74, Tryz.ntmps74
      go_wp2
      go_ret
      exact ⟨rfl, (by repeat (first | exact Below.refl _ _ | refine below_drewN ?_ _ | refine Below.drew ?_ | (refine Below.alloc ?_ (by simp; try omega) _)))⟩
  · rw [show leT ⟨a, b⟩ ⟨c, d⟩ = false by simp [leT, h1]]
    go_enter Tryz.func74, Tryz.ntmps74
    go_wp2
    go_ret
    exact ⟨rfl, (by repeat (first | exact Below.refl _ _ | refine below_drewN ?_ _ | refine Below.drew ?_ | (refine Below.alloc ?_ (by simp; try omega) _)))⟩
theorem le_t (x y : TTime) (w : World) :
    Calls Tryz.prog 74 #[.agg #[.int .i64 x.fEpoch, .int .i64 x.fRound], .agg #[.int .i64 y.fEpoch, .int .i64 y.fRound]] w fun e w' => e = .returned (.bool (leT x y)) ∧ Below w.heap.size w w' := le_any x.fEpoch x.fRound y.fEpoch y.fRound w

set_option maxHeartbeats 400000 in
theorem rle_any (a b c d : Int) (w : World) :
    Calls Tryz.prog 61 #[.agg #[.int .i64 a, .int .i64 b], .agg #[.int .i64 c, .int .i64 d]] w fun x w' => x = .returned (.bool (leT ⟨a, b⟩ ⟨c, d⟩)) ∧ Below w.heap.size w w' := by
  have hh : (!decide (c < a) && !decide (d < b)) = leT ⟨a, b⟩ ⟨c, d⟩ := by
    rw [Bool.eq_iff_iff]; simp [leT]
  replace hh := Lib.hid hh
  go_enter Tryz.func61, Tryz.ntmps61
  go_wp2
  all_goals (go_ret; refine ⟨?_, (by repeat (first | exact Below.refl _ _ | refine below_drewN ?_ _ | refine Below.drew ?_ | (refine Below.alloc ?_ (by simp; try omega) _)))⟩; rw [← hh.out])
  all_goals (first | rfl | (simp; omega))
theorem rle_t (x y : TTime) (w : World) :
    Calls Tryz.prog 61 #[.agg #[.int .i64 x.fEpoch, .int .i64 x.fRound], .agg #[.int .i64 y.fEpoch, .int .i64 y.fRound]] w fun e w' => e = .returned (.bool (leT x y)) ∧ Below w.heap.size w w' := rle_any x.fEpoch x.fRound y.fEpoch y.fRound w

set_option maxHeartbeats 400000 in
theorem same_any (a b c d : Int) (w : World) :
    Calls Tryz.prog 37 #[.agg #[.int .i64 a, .int .i64 b], .agg #[.int .i64 c, .int .i64 d]] w fun x w' => x = .returned (.bool (sameT ⟨a, b⟩ ⟨c, d⟩)) ∧ Below w.heap.size w w' := by
  by_cases h1 : a = c
  · subst h1
    by_cases h2 : b = d
    · subst h2
      rw [show sameT ⟨a, b⟩ ⟨a, b⟩ = true by simp [sameT]]
      go_enter Tryz.func37, Tryz.ntmps37
      go_wp2
      go_ret
      exact ⟨rfl, (by repeat (first | exact Below.refl _ _ | refine below_drewN ?_ _ | refine Below.drew ?_ | (refine Below.alloc ?_ (by simp; try omega) _)))⟩
    · rw [show sameT ⟨a, b⟩ ⟨a, d⟩ = false by simp [sameT, h2]]
      have h3 : (b == d) = false := by simpa using h2
      clear h2
      go_enter Tryz.func37, Tryz.ntmps37
      go_wp2
      go_ret
      exact ⟨rfl, (by repeat (first | exact Below.refl _ _ | refine below_drewN ?_ _ | refine Below.drew ?_ | (refine Below.alloc ?_ (by simp; try omega) _)))⟩
  · rw [show sameT ⟨a, b⟩ ⟨c, d⟩ = false by simp [sameT, h1]]
    have h3 : (a == c) = false := by simpa using h1
    clear h1
    go_enter Tryz.func37, Tryz.ntmps37
    go_wp2
    go_ret
    exact ⟨rfl, (by repeat (first | exact Below.refl _ _ | refine below_drewN ?_ _ | refine Below.drew ?_ | (refine Below.alloc ?_ (by simp; try omega) _)))⟩
theorem same_t (x y : TTime) (w : World) :
    Calls Tryz.prog 37 #[.agg #[.int .i64 x.fEpoch, .int .i64 x.fRound], .agg #[.int .i64 y.fEpoch, .int .i64 y.fRound]] w fun e w' => e = .returned (.bool (sameT x y)) ∧ Below w.heap.size w w' := same_any x.fEpoch x.fRound y.fEpoch y.fRound w

set_option maxHeartbeats 400000 in
theorem out_any (a b : Int) (w : World) :
    Calls Tryz.prog 75 #[.agg #[.int .i64 a, .int .i64 b]] w fun x w' => x = .returned (.agg #[.int .i64 a, .int .i64 0]) ∧ Below w.heap.size w w' := by
  go_enter Tryz.func75, Tryz.ntmps75
  go_wp2
  exact bodyPost_ret (v := .agg #[.int .i64 a, .int .i64 0]) (by simp [results, Tryz.results75, go_sem]) rfl ⟨rfl, (by repeat (first | exact Below.refl _ _ | refine below_drewN ?_ _ | refine Below.drew ?_ | (refine Below.alloc ?_ (by simp; try omega) _)))⟩

end Go.Proofs.YtjmbafcpbagpdaaGreat

/- Stamp: SameTimes, the document's Covers and Front. -/
namespace Go.Proofs.YtjmbafcpbagpdaaGreat
open Go.RowKit
set_option linter.unusedVariables false

theorem imp_times {B : Nat} {w w' : World} {ao : Option Addr} {cap : Nat} {xs : List TTime} (h : SlA B 2 (RTime B) w ao cap xs) (hb : Below B w w') : SlA B 2 (RTime B) w' ao cap xs := h.imp hb (Nat.le_refl _) (fun _ _ _ h => h)
theorem imp_times' {B B' : Nat} {w : World} {ao : Option Addr} {cap : Nat} {xs : List TTime} (h : SlA B 2 (RTime B) w ao cap xs) (hb : B ≤ B') : SlA B' 2 (RTime B') w ao cap xs := h.imp (Below.refl _ _) hb (fun _ _ _ h => h)
theorem sameTs_iff (a b : List TTime) : sameTs a b = true ↔ a = b := by
  constructor
  · intro h
    unfold sameTs at h
    simp only [Bool.and_eq_true, decide_eq_true_eq] at h
    obtain ⟨hl, hz⟩ := h
    refine List.ext_getElem hl fun i h1 h2 => ?_
    rw [List.all_eq_true] at hz
    have := hz (a[i], b[i]) (List.mem_iff_getElem.2 ⟨i, by simp; omega, by simp⟩)
    exact (sameT_iff _ _).1 this
  · rintro rfl; exact sameTs_self a
theorem sameTs_false {a b : List TTime} (h : a ≠ b) : sameTs a b = false := by
  cases hs : sameTs a b with
  | false => rfl
  | true => exact absurd ((sameTs_iff a b).1 hs) h
theorem take_succ_eq {α : Type} {l m : List α} {k : Nat} (h1 : k < l.length) (h2 : k < m.length) (h : l.take k = m.take k) (he : l[k] = m[k]) : l.take (k + 1) = m.take (k + 1) := by
  rw [List.take_succ_eq_append_getElem h1, List.take_succ_eq_append_getElem h2, h, he]

set_option maxHeartbeats 1000000 in
theorem sameTimes_any (l m : List TTime) (ao bo : Option Addr) (c1 c2 : Nat) (w : World) (B : Nat) (hB : B ≤ w.heap.size) (hl : SlA B 2 (RTime B) w ao c1 l) (hm : SlA B 2 (RTime B) w bo c2 m) :
    Calls Tryz.prog 13 #[.slice ao l.length c1, .slice bo m.length c2] w fun e w' => e = .returned (.bool (sameTs l m)) ∧ Below w.heap.size w w' := by
  by_cases hlen : l.length = m.length
  · have hln := hl.len
    obtain ⟨n, hn⟩ : ∃ n, n = l.length := ⟨_, rfl⟩
    rw [← hlen, ← hn]
    rw [← hn] at hln
    have Hm : Hid (n = m.length) := Lib.hid (hn.trans hlen)
    replace hn := Lib.hid hn
    clear hlen
    obtain ⟨res, hres⟩ : ∃ res, res = sameTs l m := ⟨_, rfl⟩
    rw [← hres]
    replace hres := Lib.hid hres
    go_enter Tryz.func13, Tryz.ntmps13
    go_wp2_with fail
    go_loopw [5] (fun i wr => ∃ k : Nat, k ≤ n ∧ i = .int .i64 k ∧ Below w.heap.size w wr ∧ Hid (l.take k = m.take k)) (fun i _ => n - (intOf i).toNat)
    case atStart => exact ⟨0, Nat.zero_le _, rfl, Below.refl _ _, Lib.hid rfl⟩
    case round =>
      obtain ⟨k, hk, rfl, hbel, hpre⟩ := hrel
      by_cases hlt : k < n
      · have hkl : k < l.length := by rw [← hn.out]; exact hlt
        have hkm : k < m.length := by rw [← Hm.out]; exact hlt
        obtain ⟨b1, o1, rfl, hb1, _⟩ := hl.addr (by omega)
        obtain ⟨b2, o2, rfl, hb2, _⟩ := hm.addr (by omega)
        obtain ⟨x, hx⟩ : ∃ x, l[k] = x := ⟨_, rfl⟩
        obtain ⟨y, hy⟩ : ∃ y, m[k] = y := ⟨_, rfl⟩
        obtain ⟨e0, e1, _, _⟩ := RTime.at (imp_times hl (hbel.mono hB)) hkl hx
        obtain ⟨g0, g1, _, _⟩ := RTime.at (imp_times hm (hbel.mono hB)) hkm hy
        have hsz := hbel.size
        have q0 := Wd.cell e0 (show b1 < wr.heap.size by omega)
        have q1 := Wd.cell e1 (show b1 < wr.heap.size by omega)
        have q2 := Wd.cell g0 (show b2 < wr.heap.size by omega)
        have q3 := Wd.cell g1 (show b2 < wr.heap.size by omega)
        have hsame := fun W => same_t x y W
        have hts := take_succ_eq hkl hkm hpre.out
        rw [hx, hy] at hts
        have hne : x ≠ y → res = false := fun hxy => by rw [hres.out]; exact sameTs_false (fun e => hxy (by rw [← hx, ← hy]; simp only [e]))
        replace hts := Lib.hid hts
        replace hne := Lib.hid hne
        clear e0 e1 g0 g1 hx hy hl hm
        cases hs : sameT x y with
        | true =>
          have hxy := (sameT_iff x y).1 hs
          have hts2 := Lib.hid (hts.out hxy)
          rw [hs] at hsame
          clear hs hxy hts hne
          go_wp2_with fail
          refine wp_region_below (by kernel_rfl) (by kernel_rfl) ?_
          repeat (go_big_quiet_step ((go_at_call 37; exact Calls.quiet_below (hsame _))))
          refine wpQuiet_nil ?_
          rintro _ ⟨u, rfl⟩
          have hbu := hbel.trans (u.h.mono hsz)
          go_wp2_with fail
          go_roundw
          case rel => exact ⟨k + 1, by omega, by go_num, hbu, hts2⟩
          case measure => simp [intOf]; omega
        | false =>
          have hxy : x ≠ y := fun e => by rw [(sameT_iff x y).2 e] at hs; cases hs
          have hr := hne.out hxy
          rw [hs] at hsame
          subst hr
          clear hs hxy hts hne
          go_wp2_with fail
          refine wp_region_below (by kernel_rfl) (by kernel_rfl) ?_
          repeat (go_big_quiet_step ((go_at_call 37; exact Calls.quiet_below (hsame _))))
          refine wpQuiet_nil ?_
          rintro _ ⟨u, rfl⟩
          have hbu := hbel.trans (u.h.mono hsz)
          go_wp2_with fail
          go_ret
          exact ⟨rfl, hbu⟩
      · obtain rfl : k = n := by omega
        have hr : res = true := by
          rw [hres.out, sameTs_iff]
          have h1 := hpre.out
          rw [List.take_of_length_le (by rw [← hn.out]; exact Nat.le_refl _), List.take_of_length_le (by rw [← Hm.out]; exact Nat.le_refl _)] at h1
          exact h1
        subst hr
        clear hres
        go_wp2_with fail
        go_ret
        exact ⟨rfl, hbel⟩
  · have hr : sameTs l m = false := sameTs_false fun e => hlen (by rw [e])
    rw [hr]
    have h1 := hl.len
    have h2 := hm.len
    have e1 : ((l.length : Int) != (m.length : Int)) = true := by simp; omega
    clear hlen hr
    go_enter Tryz.func13, Tryz.ntmps13
    go_wp2_with fail
    go_ret
    exact ⟨rfl, Below.refl _ _⟩

theorem covers_succ {l : List TTime} {k : Nat} {x : TTime} (t : TTime) (h : k < l.length) (hx : l[k] = x) (hp : coversT (l.take k) t = false) : coversT (l.take (k + 1)) t = (goodT x && leT x t) := by
  unfold coversT at *
  rw [List.take_succ_eq_append_getElem h, List.any_append, hp, hx]
  simp
theorem covers_hit {l : List TTime} {k : Nat} {x : TTime} (t : TTime) (h : k < l.length) (hx : l[k] = x) (hp : (goodT x && leT x t) = true) : coversT l t = true := by
  unfold coversT
  exact List.any_eq_true.2 ⟨x, by rw [← hx]; exact List.getElem_mem h, hp⟩

set_option maxHeartbeats 1000000 in
theorem rcovers_any (l : List TTime) (t : TTime) (ao : Option Addr) (c1 : Nat) (w : World) (B : Nat) (hB : B ≤ w.heap.size) (hl : SlA B 2 (RTime B) w ao c1 l) :
    Calls Tryz.prog 60 #[.slice ao l.length c1, .agg #[.int .i64 t.fEpoch, .int .i64 t.fRound]] w fun e w' => e = .returned (.bool (coversT l t)) ∧ Below w.heap.size w w' := by
  have hln := hl.len
  obtain ⟨n, hn⟩ : ∃ n, n = l.length := ⟨_, rfl⟩
  rw [← hn]
  rw [← hn] at hln
  replace hn := Lib.hid hn
  obtain ⟨res, hres⟩ : ∃ res, res = coversT l t := ⟨_, rfl⟩
  rw [← hres]
  replace hres := Lib.hid hres
  go_enter Tryz.func60, Tryz.ntmps60
  go_wp2_with fail
  refine Code.wp_world ?_
  intro w1 hw1
  have hb1 : Below w.heap.size w w1 := by rw [hw1]; exact (by repeat (first | exact Below.refl _ _ | assumption | refine below_drewN ?_ _ | refine Below.drew ?_ | (refine Below.setCell ?_ (by first | omega | (simp; omega) | simp) _) | (refine Below.alloc ?_ (by first | omega | (simp; omega) | simp) _) | (refine Below.trans ?_ (Below.mono (by assumption) (by first | omega | (simp; omega) | simp)))))
  have hT : Blk w1 w.heap.size #[.int .i64 t.fEpoch, .int .i64 t.fRound] 57 := by rw [hw1]; exact Blk.new _ _ _
  have hl1 := imp_times hl (hb1.mono hB)
  have hB1 : B ≤ w1.heap.size := Nat.le_trans hB hb1.size
  clear hw1 hl hB
  go_loopw [5] (fun i wr => ∃ k : Nat, k ≤ n ∧ i = .int .i64 k ∧ Below w1.heap.size w1 wr ∧ Hid (coversT (l.take k) t = false)) (fun i _ => n - (intOf i).toNat)
  case atStart => exact ⟨0, Nat.zero_le _, rfl, Below.refl _ _, Lib.hid rfl⟩
  case round =>
    obtain ⟨k, hk, rfl, hbel, hpre⟩ := hrel
    have hsz := hbel.size
    by_cases hlt : k < n
    · have hkl : k < l.length := by rw [← hn.out]; exact hlt
      obtain ⟨b1, o1, rfl, hb1', _⟩ := hl1.addr (by omega)
      obtain ⟨x, hx⟩ : ∃ x, l[k] = x := ⟨_, rfl⟩
      obtain ⟨e0, e1, _, _⟩ := RTime.at (imp_times hl1 (hbel.mono hB1)) hkl hx
      have hT2 := hT.below hbel hT.lt
      have q0 := Wd.cell e0 (show b1 < wr.heap.size by omega)
      have q1 := Wd.cell e1 (show b1 < wr.heap.size by omega)
      have q2 := Wd.cell (hT2.cellAt (i := 0) (v := .int .i64 t.fEpoch) rfl) hT2.lt
      have q3 := Wd.cell (hT2.cellAt (i := 1) (v := .int .i64 t.fRound) rfl) hT2.lt
      have hg := fun W => rgood_t x W
      have hle := fun W => rle_t x t W
      have hs := covers_succ t hkl hx hpre.out
      have hr : (goodT x && leT x t) = true → res = true := fun h => by rw [hres.out]; exact covers_hit t hkl hx h
      clear e0 e1 hx hl1 hT hT2
      cases h1 : goodT x with
      | true =>
        rw [h1] at hg hs hr
        cases h2 : leT x t with
        | true =>
          rw [h2] at hle hr
          obtain rfl := hr rfl
          clear hs hr h1 h2
          go_wp2_with fail
          refine wp_region_below (by kernel_rfl) (by kernel_rfl) ?_
          repeat (go_big_quiet_step (first | (go_at_call 57; exact Calls.quiet_below (hg _)) | (go_at_call 61; exact Calls.quiet_below (hle _))))
          refine wpQuiet_nil ?_
          rintro _ ⟨u, rfl⟩
          go_wp2_with fail
          go_ret
          exact ⟨rfl, hb1.trans ((hbel.trans (u.h.mono hsz)).mono hb1.size)⟩
        | false =>
          rw [h2] at hle hs
          replace hs := Lib.hid hs
          clear hr h1 h2
          go_wp2_with fail
          refine wp_region_below (by kernel_rfl) (by kernel_rfl) ?_
          repeat (go_big_quiet_step (first | (go_at_call 57; exact Calls.quiet_below (hg _)) | (go_at_call 61; exact Calls.quiet_below (hle _))))
          refine wpQuiet_nil ?_
          rintro _ ⟨u, rfl⟩
          have hbu := hbel.trans (u.h.mono hsz)
          go_wp2_with fail
          go_roundw
          case rel => exact ⟨k + 1, by omega, by go_num, hbu, hs⟩
          case measure => simp [intOf]; omega
      | false =>
        rw [h1] at hg hs
        replace hs := Lib.hid hs
        clear hr h1
        go_wp2_with fail
        refine wp_region_below (by kernel_rfl) (by kernel_rfl) ?_
        repeat (go_big_quiet_step ((go_at_call 57; exact Calls.quiet_below (hg _))))
        refine wpQuiet_nil ?_
        rintro _ ⟨u, rfl⟩
        have hbu := hbel.trans (u.h.mono hsz)
        go_wp2_with fail
        go_roundw
        case rel => exact ⟨k + 1, by omega, by go_num, hbu, hs⟩
        case measure => simp [intOf]; omega
    · obtain rfl : k = n := by omega
      have hr : res = false := by
        rw [hres.out]
        have h1 := hpre.out
        rw [List.take_of_length_le (by rw [← hn.out]; exact Nat.le_refl _)] at h1
        exact h1
      subst hr
      clear hres
      go_wp2_with fail
      go_ret
      exact ⟨rfl, hb1.trans (hbel.mono hb1.size)⟩
end Go.Proofs.YtjmbafcpbagpdaaGreat
