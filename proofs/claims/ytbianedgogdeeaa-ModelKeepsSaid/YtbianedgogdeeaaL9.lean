/- Texts: their order, their equality; maps whose keys are texts. -/
import Derived.Test.YtbianedgogdeeaaL3
import Derived.StringKeys
namespace Go
open Go.RowKit
set_option linter.unusedVariables false

theorem less_eq : ∀ (x y : List UInt8), Op.bytesLess x y = decide (x < y)
  | [], [] => by simp [Op.bytesLess]
  | _ :: _, [] => by simp [Op.bytesLess]
  | [], _ :: _ => by simp [Op.bytesLess]
  | a :: x, b :: y => by
    rw [Op.bytesLess, less_eq x y]
    simp only [List.cons_lt_cons_iff]
    by_cases h1 : a < b <;> by_cases h2 : a = b <;> by_cases h3 : x < y <;> simp [h1, h2, h3]
theorem less_irr : ∀ (x : List UInt8), Op.bytesLess x x = false
  | [] => rfl
  | a :: x => by rw [Op.bytesLess, less_irr x]; simp [UInt8.lt_irrefl]
theorem less_trans : ∀ (x y z : List UInt8), Op.bytesLess x y = true → Op.bytesLess y z = true → Op.bytesLess x z = true
  | x, y, [], _, h => by cases y <;> simp [Op.bytesLess] at h
  | x, [], _ :: _, h, _ => by cases x <;> simp [Op.bytesLess] at h
  | [], _ :: _, _ :: _, _, _ => rfl
  | a :: x, b :: y, c :: z, h1, h2 => by
    rw [Op.bytesLess, Bool.or_eq_true, Bool.and_eq_true, decide_eq_true_eq] at h1 h2 ⊢
    rcases h1 with h1 | ⟨h1, h3⟩
    · rcases h2 with h2 | ⟨h2, h4⟩
      · exact .inl (UInt8.lt_trans h1 h2)
      · rw [← eq_of_beq h2]; exact .inl h1
    · rcases h2 with h2 | ⟨h2, h4⟩
      · rw [eq_of_beq h1]; exact .inl h2
      · refine .inr ⟨by rw [eq_of_beq h1]; exact h2, less_trans x y z h3 h4⟩
theorem less_total : ∀ (x y : List UInt8), Op.bytesLess x y = false → x ≠ y → Op.bytesLess y x = true
  | [], [], _, h => absurd rfl h
  | [], _ :: _, h, _ => by simp [Op.bytesLess] at h
  | _ :: _, [], _, _ => rfl
  | a :: x, b :: y, h, hne => by
    rw [Op.bytesLess, Bool.or_eq_false_iff, decide_eq_false_iff_not, Bool.and_eq_false_iff] at h
    rw [Op.bytesLess, Bool.or_eq_true, Bool.and_eq_true, decide_eq_true_eq]
    by_cases hab : a = b
    · subst hab
      refine .inr ⟨by simp, less_total x y ?_ (fun e => hne (by rw [e]))⟩
      rcases h.2 with h2 | h2
      · simp at h2
      · exact h2
    · refine .inl ?_
      have h1 : ¬ a < b := h.1
      rcases Nat.lt_or_gt_of_ne (fun e => hab (UInt8.toNat_inj.1 e)) with h3 | h3
      · exact absurd (UInt8.lt_iff_toNat_lt.2 h3) h1
      · exact UInt8.lt_iff_toNat_lt.2 h3

theorem toList_inj {a b : ByteArray} : a.toList = b.toList ↔ a = b := by
  constructor
  · intro h
    rw [ByteArray.toList_eq, ByteArray.toList_eq] at h
    have := Array.toList_inj.1 h
    cases a; cases b
    simpa using this
  · rintro rfl; rfl
theorem str_eq (a b : ByteArray) : (a.toList == b.toList) = decide (a = b) := by
  by_cases h : a = b
  · subst h; simp
  · have : ¬ a.toList = b.toList := fun e => h (toList_inj.1 e)
    simp [h, this]

/-- How texts are keys. -/
def klT (s : ByteArray) : Lit := .string s.data.toList
def wfT (s : ByteArray) : Prop := s.size ≤ maxLen
theorem keyT {P : Program} {k : TypeId} (hk : P.underlying k = some .string) : KeyL P k Value.string klT wfT where
  law := WideMaps.string_law hk
  key x hx := WideMaps.keyOf_string_mk hk hx
  inv v l h := by
    obtain ⟨s, rfl, rfl, hs⟩ := WideMaps.string_of_keyOf hk h
    exact ⟨s, hs, rfl, rfl⟩
  inj x y h := by simpa using h

/-! Rows of named things. -/
section
variable {α β : Type}
def getL (l : List (ByteArray × α)) (s : ByteArray) : Option α := (l.find? (fun p => decide (p.1 = s))).map Prod.snd
def withL : List (ByteArray × α) → ByteArray → α → List (ByteArray × α)
  | [], s, d => [(s, d)]
  | p :: r, s, d => if Op.bytesLess p.1.toList s.toList = true then p :: withL r s d else (s, d) :: (p :: r).filter (fun q => !decide (q.1 = s))
def withoutL (l : List (ByteArray × α)) (s : ByteArray) : List (ByteArray × α) := l.filter (fun q => !decide (q.1 = s))
def Srt (l : List (ByteArray × α)) : Prop := l.Pairwise (fun p q => Op.bytesLess p.1.toList q.1.toList = true)
def mapL (f : α → β) (l : List (ByteArray × α)) : List (ByteArray × β) := l.map (fun p => (p.1, f p.2))

theorem less_ne {a b : ByteArray} (h : Op.bytesLess a.toList b.toList = true) : a ≠ b := by
  rintro rfl
  rw [less_irr] at h
  cases h
theorem getL_map (f : α → β) (l : List (ByteArray × α)) (s : ByteArray) : getL (mapL f l) s = (getL l s).map f := by
  unfold getL mapL
  rw [List.find?_map, Option.map_map, Option.map_map]
  rfl
theorem withL_map (f : α → β) : ∀ (l : List (ByteArray × α)) (s : ByteArray) (d : α), mapL f (withL l s d) = withL (mapL f l) s (f d)
  | [], s, d => rfl
  | p :: r, s, d => by
    show mapL f (if _ then _ else _) = (if Op.bytesLess p.1.toList s.toList = true then _ else _)
    split
    · show (p.1, f p.2) :: mapL f (withL r s d) = _
      rw [withL_map f r s d]
      rfl
    · show (s, f d) :: mapL f ((p :: r).filter _) = (s, f d) :: (mapL f (p :: r)).filter _
      congr 1
      unfold mapL
      rw [List.filter_map]
      rfl
theorem withoutL_map (f : α → β) (l : List (ByteArray × α)) (s : ByteArray) : mapL f (withoutL l s) = withoutL (mapL f l) s := by
  unfold mapL withoutL
  rw [List.filter_map]
  rfl
theorem withL_perm : ∀ (l : List (ByteArray × α)) (s : ByteArray) (d : α), (withL l s d).Perm ((s, d) :: withoutL l s)
  | [], s, d => .refl _
  | p :: r, s, d => by
    rw [withL]
    split
    · rename_i h
      have hne := less_ne h
      have : withoutL (p :: r) s = p :: withoutL r s := by unfold withoutL; simp [hne]
      rw [this]
      exact ((withL_perm r s d).cons p).trans (.swap _ _ _)
    · exact .refl _
theorem mem_withoutL {l : List (ByteArray × α)} {s : ByteArray} {p : ByteArray × α} : p ∈ withoutL l s ↔ p ∈ l ∧ p.1 ≠ s := by
  unfold withoutL
  simp
theorem mem_withL {l : List (ByteArray × α)} {s : ByteArray} {d : α} {p : ByteArray × α} (h : p ∈ withL l s d) : p = (s, d) ∨ (p ∈ l ∧ p.1 ≠ s) := by
  rcases List.mem_cons.1 ((withL_perm l s d).mem_iff.1 h) with h | h
  · exact .inl h
  · exact .inr (mem_withoutL.1 h)
theorem withoutL_len (l : List (ByteArray × α)) (s : ByteArray) : (withoutL l s).length ≤ l.length := List.length_filter_le _ _
theorem withL_len (l : List (ByteArray × α)) (s : ByteArray) (d : α) : (withL l s d).length ≤ l.length + 1 := by
  rw [(withL_perm l s d).length_eq, List.length_cons]
  exact Nat.succ_le_succ (withoutL_len l s)
theorem Srt.without {l : List (ByteArray × α)} (h : Srt l) (s : ByteArray) : Srt (withoutL l s) := List.Pairwise.filter _ h
theorem Srt.with {s : ByteArray} {d : α} : ∀ {l : List (ByteArray × α)}, Srt l → Srt (withL l s d)
  | [], _ => List.pairwise_singleton _ _
  | p :: r, h => by
    have hp := List.pairwise_cons.1 h
    rw [withL]
    split
    · rename_i hl
      refine List.pairwise_cons.2 ⟨fun q hq => ?_, Srt.with hp.2⟩
      rcases mem_withL hq with rfl | ⟨hq, _⟩
      · exact hl
      · exact hp.1 q hq
    · rename_i hl
      refine List.pairwise_cons.2 ⟨fun q hq => ?_, List.Pairwise.filter _ h⟩
      rw [List.mem_filter] at hq
      have hne : q.1 ≠ s := by simpa using hq.2
      have hps : p.1 = s ∨ Op.bytesLess s.toList p.1.toList = true := by
        by_cases e : p.1 = s
        · exact .inl e
        · exact .inr (less_total _ _ (by simpa using hl) (fun e2 => e (toList_inj.1 e2)))
      rcases List.mem_cons.1 hq.1 with rfl | hq1
      · rcases hps with e | e
        · exact absurd e hne
        · exact e
      · have h1 := hp.1 q hq1
        rcases hps with e | e
        · rw [← e]; exact h1
        · exact less_trans _ _ _ e h1
theorem Srt.nodup {l : List (ByteArray × α)} (h : Srt l) : (l.map Prod.fst).Nodup := by
  unfold List.Nodup
  rw [List.pairwise_map]
  exact List.Pairwise.imp (fun h e => less_ne h e) h
theorem getL_mem {l : List (ByteArray × α)} {s : ByteArray} {v : α} (h : getL l s = some v) : (s, v) ∈ l := by
  unfold getL at h
  obtain ⟨p, hp, rfl⟩ := Option.map_eq_some_iff.1 h
  have h1 := List.find?_some hp
  have h2 := List.mem_of_find?_eq_some hp
  simp only [decide_eq_true_eq] at h1
  subst h1
  exact h2
theorem getL_none {l : List (ByteArray × α)} {s : ByteArray} : getL l s = none ↔ ∀ p ∈ l, p.1 ≠ s := by
  unfold getL
  simp [List.find?_eq_none]
theorem getL_of_mem : ∀ {l : List (ByteArray × α)}, (l.map Prod.fst).Nodup → ∀ {s : ByteArray} {v : α}, (s, v) ∈ l → getL l s = some v
  | [], _, s, v, h => by cases h
  | p :: r, hn, s, v, h => by
    rw [List.map_cons, List.nodup_cons] at hn
    rcases List.mem_cons.1 h with rfl | h
    · simp [getL]
    · have hne : p.1 ≠ s := fun e => hn.1 (List.mem_map.2 ⟨_, h, e.symm⟩)
      have := getL_of_mem hn.2 h
      unfold getL at this ⊢
      rw [List.find?_cons]
      simp only [hne, decide_false]
      exact this
theorem getL_perm {l l' : List (ByteArray × α)} (hn : (l.map Prod.fst).Nodup) (hp : l.Perm l') (s : ByteArray) : getL l' s = getL l s := by
  have hn' : (l'.map Prod.fst).Nodup := (hp.map Prod.fst).nodup_iff.1 hn
  cases hg : getL l s with
  | none => exact getL_none.2 (fun p h => getL_none.1 hg p (hp.mem_iff.2 h))
  | some v => exact getL_of_mem hn' (hp.mem_iff.1 (getL_mem hg))
theorem getL_withoutL (l : List (ByteArray × α)) (s t : ByteArray) : getL (withoutL l s) t = if t = s then none else getL l t := by
  by_cases h : t = s
  · rw [if_pos h, getL_none]
    intro p hp
    rw [h]
    exact (mem_withoutL.1 hp).2
  · rw [if_neg h]
    unfold getL withoutL
    congr 1
    induction l with
    | nil => rfl
    | cons p r ih =>
      rw [List.filter_cons]
      by_cases hps : p.1 = s
      · have hpt : p.1 ≠ t := fun e => h (by rw [← e, hps])
        rw [List.find?_cons]
        simp only [hps, decide_true, Bool.not_true, Bool.false_eq_true, if_false]
        rw [ih]
        have : decide (s = t) = false := by rw [← hps]; simp [hpt]
        rw [this]
      · simp only [hps, decide_false, Bool.not_false, if_true, List.find?_cons, ih]
theorem getL_withL : ∀ (l : List (ByteArray × α)) (s t : ByteArray) (d : α), getL (withL l s d) t = if t = s then some d else getL l t
  | [], s, t, d => by
    unfold getL withL
    by_cases h : t = s
    · simp [h]
    · have : ¬ s = t := fun e => h e.symm
      simp [h, this]
  | p :: r, s, t, d => by
    rw [withL]
    split
    · rename_i hl
      have hne := less_ne hl
      have ih := getL_withL r s t d
      unfold getL at ih ⊢
      rw [List.find?_cons, List.find?_cons]
      by_cases hpt : p.1 = t
      · have : ¬ t = s := fun e => hne (by rw [hpt, e])
        simp [hpt, this]
      · simp only [hpt, decide_false]
        exact ih
    · have h2 := getL_withoutL (p :: r) s t
      unfold withoutL at h2
      by_cases h : t = s
      · subst h
        simp [getL]
      · rw [if_neg h] at h2 ⊢
        rw [← h2]
        unfold getL
        rw [List.find?_cons]
        have : ¬ s = t := fun e => h e.symm
        simp [this]
end
end Go
