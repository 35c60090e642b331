/- Model: keys and sums as two lists (plain), for ModelSums. -/
import Derived.Test.YtbianedgogdeeaaNc
import Derived.Test.YtbianedgogdeeaaMu
namespace Go.Proofs.Ytbianedgogdeeaa
open Go.RowKit Fold
set_option linter.unusedVariables false

/-- The first place of a text from place i on; -1: none. -/
def findI (s : ByteArray) : List ByteArray → Nat → Int
  | [], _ => -1
  | x :: r, i => if x = s then i else findI s r (i + 1)
theorem findI_in {s : ByteArray} : ∀ {l : List ByteArray} {i : Nat}, s ∈ l → ∃ j, j < l.length ∧ findI s l i = ((i + j : Nat) : Int) ∧ l[j]? = some s
  | x :: r, i, h => by
    unfold findI
    by_cases e : x = s
    · rw [if_pos e]
      exact ⟨0, by simp, by simp, by rw [e]; rfl⟩
    · rw [if_neg e]
      obtain ⟨j, h1, h2, h3⟩ := findI_in (i := i + 1) ((List.mem_cons.1 h).resolve_left (fun h => e h.symm))
      exact ⟨j + 1, by simp; omega, by rw [h2, show i + 1 + j = i + (j + 1) by omega], by simpa using h3⟩
theorem findI_out {s : ByteArray} : ∀ {l : List ByteArray} {i : Nat}, s ∉ l → findI s l i = -1
  | [], i, h => rfl
  | x :: r, i, h => by
    unfold findI
    rw [if_neg (fun e => h (by rw [e]; exact List.mem_cons_self ..))]
    exact findI_out (fun h' => h (List.mem_cons_of_mem _ h'))
theorem findI_bounds {s : ByteArray} {l : List ByteArray} : -1 ≤ findI s l 0 ∧ findI s l 0 < l.length + 1 := by
  by_cases h : s ∈ l
  · obtain ⟨j, h1, h2, _⟩ := findI_in (i := 0) h
    rw [h2]
    omega
  · rw [findI_out h]
    omega

/-- The keys that came with their sums, as two lists, are these pairs. -/
structure KS (keys : List ByteArray) (sums : List Nat) (X : PRS) : Prop where
  nd : keys.Nodup
  len : sums.length = keys.length
  srt : Srt X
  get : ∀ k, getL (keys.zip sums) k = getL X k
theorem KS.nil : KS [] [] [] := ⟨List.nodup_nil, rfl, List.Pairwise.nil, fun k => rfl⟩
theorem zip_keys {keys : List ByteArray} {sums : List Nat} (h : sums.length = keys.length) : (keys.zip sums).map Prod.fst = keys := List.map_fst_zip (by omega)
theorem KS.mem {keys : List ByteArray} {sums : List Nat} {X : PRS} (h : KS keys sums X) (p : PR) : p ∈ keys.zip sums ↔ p ∈ X := by
  rw [mem_getL (by rw [zip_keys h.len]; exact h.nd), mem_getL h.srt.nodup, h.get]
theorem KS.perm {keys : List ByteArray} {sums : List Nat} {X : PRS} (h : KS keys sums X) : (keys.zip sums).Perm X :=
  (List.perm_ext_iff_of_nodup (nodup_of_keys (by rw [zip_keys h.len]; exact h.nd)) (nodup_of_keys h.srt.nodup)).2 h.mem
theorem KS.length {keys : List ByteArray} {sums : List Nat} {X : PRS} (h : KS keys sums X) : X.length = keys.length := by
  rw [← h.perm.length_eq, List.length_zip, h.len, Nat.min_self]
theorem KS.key {keys : List ByteArray} {sums : List Nat} {X : PRS} (h : KS keys sums X) {k : ByteArray} : k ∈ keys ↔ k ∈ X.map Prod.fst := by
  have h1 := (h.perm.map Prod.fst).mem_iff (a := k)
  rwa [zip_keys h.len] at h1
theorem KS.at {keys : List ByteArray} {sums : List Nat} {X : PRS} (h : KS keys sums X) {j : Nat} {k : ByteArray} (hk : keys[j]? = some k) {v : Nat} (hv : getL X k = some v) : sums[j]? = some v := by
  obtain ⟨hj, hke⟩ := List.getElem?_eq_some_iff.1 hk
  have hj2 : j < sums.length := by rw [h.len]; exact hj
  have hz : (keys.zip sums)[j]'(by rw [List.length_zip, h.len, Nat.min_self]; exact hj) = (k, sums[j]) := by rw [List.getElem_zip, hke]
  have hm : (k, sums[j]) ∈ keys.zip sums := by rw [← hz]; exact List.getElem_mem _
  have h1 := getL_of_mem h.srt.nodup ((h.mem _).1 hm)
  rw [hv] at h1
  simp only [Option.some.injEq] at h1
  rw [List.getElem?_eq_getElem hj2, h1]
/-- One more record. -/
theorem getL_fold1 (X : PRS) (key k : ByteArray) {v : Nat} (hv : v < 4294967296) : getL (foldKeep 0 [(key, v)] X) k = if key = k then some (((getL X k).getD 0 + v) % 4294967296) else getL X k := by
  rw [getL_foldKeep2, valsK_cons]
  by_cases e : key = k
  · rw [if_pos e, if_pos e]
    show optJ 0 (getL X k) (some v) = _
    cases getL X k with
    | none => show some v = some ((0 + v) % 4294967296); rw [Nat.zero_add, Nat.mod_eq_of_lt hv]
    | some a => rfl
  · rw [if_neg e, if_neg e]
    exact optJ_none 0 _
theorem getL_zip_set : ∀ (keys : List ByteArray) (sums : List Nat), keys.Nodup → ∀ (j : Nat) (v : Nat) (key k : ByteArray), j < sums.length → keys[j]? = some key → getL (keys.zip (sums.set j v)) k = if key = k then some v else getL (keys.zip sums) k
  | [], sums, hn, j, v, key, k, hj, hk => by cases hk
  | x :: r, [], hn, j, v, key, k, hj, hk => by cases hj
  | x :: r, a :: s, hn, 0, v, key, k, hj, hk => by
    simp only [List.getElem?_cons_zero, Option.some.injEq] at hk
    subst hk
    show getL ((x, v) :: r.zip s) k = if x = k then some v else getL ((x, a) :: r.zip s) k
    unfold getL
    by_cases e : x = k
    · simp [e]
    · simp [e]
  | x :: r, a :: s, hn, j + 1, v, key, k, hj, hk => by
    simp only [List.getElem?_cons_succ] at hk
    have ih := getL_zip_set r s (List.nodup_cons.1 hn).2 j v key k (by simpa using hj) hk
    have hx : x ≠ key := fun e => (List.nodup_cons.1 hn).1 (by rw [e]; exact List.mem_of_getElem? hk)
    show getL ((x, a) :: r.zip (s.set j v)) k = if key = k then some v else getL ((x, a) :: r.zip s) k
    unfold getL at ih ⊢
    by_cases e : x = k
    · have : ¬ key = k := fun e2 => hx (e.trans e2.symm)
      simp [e, this]
    · simp only [List.find?_cons, e, decide_false, ih]
theorem getL_zip_app {keys : List ByteArray} {sums : List Nat} (h : sums.length = keys.length) (key k : ByteArray) (a : Nat) : getL ((keys ++ [key]).zip (sums ++ [a])) k = (getL (keys.zip sums) k).or (if key = k then some a else none) := by
  rw [List.zip_append h.symm]
  unfold getL
  rw [List.find?_append]
  cases hf : (keys.zip sums).find? (fun p => decide (p.1 = k)) with
  | none =>
    by_cases e : key = k
    · simp [e]
    · simp [e]
  | some q => rfl
theorem KS.old {keys : List ByteArray} {sums : List Nat} {X : PRS} (h : KS keys sums X) {j : Nat} {key : ByteArray} (hk : keys[j]? = some key) {a v : Nat} (ha : sums[j]? = some a) (hv : v < 4294967296) : KS keys (sums.set j ((a + v) % 4294967296)) (foldKeep 0 [(key, v)] X) := by
  obtain ⟨hj, hae⟩ := List.getElem?_eq_some_iff.1 ha
  refine ⟨h.nd, by rw [List.length_set]; exact h.len, foldKeep_srt h.srt, fun k => ?_⟩
  rw [getL_zip_set keys sums h.nd j _ key k hj hk, getL_fold1 X key k hv, h.get]
  by_cases e : key = k
  · subst e
    rw [if_pos rfl, if_pos rfl]
    cases hg : getL X key with
    | none =>
      have h1 := getL_none.1 hg
      obtain ⟨p, hp, hpe⟩ := List.mem_map.1 (h.key.1 (List.mem_of_getElem? hk))
      exact absurd hpe (h1 p hp)
    | some b =>
      have h1 := h.at hk hg
      rw [ha] at h1
      simp only [Option.some.injEq] at h1
      subst h1
      rfl
  · rw [if_neg e, if_neg e]
theorem KS.new {keys : List ByteArray} {sums : List Nat} {X : PRS} (h : KS keys sums X) {key : ByteArray} (hk : key ∉ keys) {v : Nat} (hv : v < 4294967296) : KS (keys ++ [key]) ((sums ++ [0]).set keys.length ((0 + v) % 4294967296)) (foldKeep 0 [(key, v)] X) := by
  have hg : getL X key = none := getL_none.2 (fun p hp e => hk (h.key.2 (List.mem_map.2 ⟨p, hp, e⟩)))
  have hset : (sums ++ [0]).set keys.length ((0 + v) % 4294967296) = sums ++ [(0 + v) % 4294967296] := by
    rw [List.set_append_right _ _ (by rw [h.len]; exact Nat.le_refl _), h.len, Nat.sub_self]
    rfl
  rw [hset]
  refine ⟨?_, by rw [List.length_append, List.length_append, h.len]; rfl, foldKeep_srt h.srt, fun k => ?_⟩
  · rw [List.nodup_append]
    exact ⟨h.nd, by simp, fun a ha b hb e => by
      rw [List.mem_singleton.1 hb] at e
      exact hk (e ▸ ha)⟩
  · rw [getL_zip_app h.len, getL_fold1 X key k hv, h.get]
    by_cases e : key = k
    · subst e
      rw [if_pos rfl, if_pos rfl, hg]
      rfl
    · rw [if_neg e, if_neg e]
      cases getL X k <;> rfl
/-- The keys that came in this epoch. -/
structure CM (came : List ByteArray) (l : PRS) : Prop where
  nd : came.Nodup
  mem : ∀ k, k ∈ came ↔ k ∈ keysK l
theorem CM.nil : CM [] [] := ⟨List.nodup_nil, fun k => by simp [keysK]⟩
theorem mem_keysK_app {l : PRS} {p : PR} {k : ByteArray} : k ∈ keysK (l ++ [p]) ↔ k ∈ keysK l ∨ p.1 = k := by
  rw [mem_keysK, mem_keysK]
  constructor
  · rintro ⟨q, hq, e⟩
    rcases List.mem_append.1 hq with h | h
    · exact .inl ⟨q, h, e⟩
    · rw [List.mem_singleton.1 h] at e; exact .inr e
  · rintro (⟨q, hq, e⟩ | e)
    · exact ⟨q, List.mem_append_left _ hq, e⟩
    · exact ⟨p, by simp, e⟩
theorem CM.old {came : List ByteArray} {l : PRS} (h : CM came l) {p : PR} (hp : p.1 ∈ came) : CM came (l ++ [p]) := ⟨h.nd, fun k => by
  rw [mem_keysK_app, ← h.mem]
  exact ⟨.inl, fun h1 => h1.elim id (fun e => e ▸ hp)⟩⟩
theorem CM.new {came : List ByteArray} {l : PRS} (h : CM came l) {p : PR} (hp : p.1 ∉ came) : CM (came ++ [p.1]) (l ++ [p]) := ⟨by
  rw [List.nodup_append]
  exact ⟨h.nd, by simp, fun a ha b hb e => by rw [List.mem_singleton.1 hb] at e; exact hp (e ▸ ha)⟩, fun k => by
  rw [mem_keysK_app, ← h.mem, List.mem_append, List.mem_singleton]
  exact ⟨fun h1 => h1.elim .inl (fun e => .inr e.symm), fun h1 => h1.elim .inl (fun e => .inr e.symm)⟩⟩
theorem CM.length {came : List ByteArray} {l : PRS} (h : CM came l) : came.length = (keysK l).length :=
  ((List.perm_ext_iff_of_nodup h.nd (nodup_keysK l)).2 h.mem).length_eq
/-- What an epoch tells. -/
theorem sums_law {K : PRS} {l : PRS} {keys came : List ByteArray} {sums : List Nat} (hK : Srt K) (hs : KS keys sums (foldKeep 0 l K)) (hc : CM came l) :
    (sortP (foldOut 0 l K)).length = came.length ∧ Srt (sortP (foldOut 0 l K)) ∧ ∀ p ∈ sortP (foldOut 0 l K), p.1 ∈ came ∧ p.1 ∈ keys ∧ ∀ j : Nat, keys[j]? = some p.1 → sums[j]? = some p.2 := by
  refine ⟨?_, sort_foldOut_srt 0 l K, fun p hp => ?_⟩
  · rw [(sortP_perm _).length_eq, hc.length]
    unfold foldOut
    rw [List.length_map]
  · have h1 := (sortP_perm _).mem_iff.1 hp
    have h2 := foldOut_sub p h1
    have h3 : p.1 ∈ keysK l := by
      have := List.mem_map_of_mem (f := Prod.fst) h1
      rwa [foldOut_keys] at this
    exact ⟨(hc.mem _).2 h3, hs.key.2 (List.mem_map.2 ⟨_, getL_mem h2, rfl⟩), fun j hj => hs.at hj h2⟩
end Go.Proofs.Ytbianedgogdeeaa
