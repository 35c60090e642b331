/- Model: what an epoch comes to, in plain Lean: pairs, operators, their order. -/
import Derived.Test.YtbianedgogdeeaaTyModel
import Derived.Test.YtbianedgogdeeaaTyGraph
import Derived.Test.YtbianedgogdeeaaL9
import Derived.Test.YtbianedgogdeeaaFp
import Derived.Test.YtbianedgogdeeaaGA
namespace Go.Proofs.Ytbianedgogdeeaa
open Go.RowKit Fold
set_option linter.unusedVariables false

instance memT (k : ByteArray) (l : List ByteArray) : Decidable (k ∈ l) := decidable_of_iff (l.any (fun x => decide (x = k)) = true) (by simp)
abbrev PR := ByteArray × Nat
abbrev PRS := List PR

/-- The values of a key. -/
def valsK (l : PRS) (k : ByteArray) : List Nat := (l.filter (fun p => decide (p.1 = k))).map Prod.snd
/-- The keys, each once. -/
def keysK : PRS → List ByteArray
  | [] => []
  | p :: r => if p.1 ∈ keysK r then keysK r else p.1 :: keysK r
theorem mem_keysK {k : ByteArray} : ∀ {l : PRS}, k ∈ keysK l ↔ ∃ p ∈ l, p.1 = k
  | [] => by simp [keysK]
  | p :: r => by
    have ih := mem_keysK (k := k) (l := r)
    unfold keysK
    split
    · rename_i h
      rw [ih]
      constructor
      · rintro ⟨q, hq, e⟩; exact ⟨q, List.mem_cons_of_mem _ hq, e⟩
      · rintro ⟨q, hq, e⟩
        rcases List.mem_cons.1 hq with rfl | hq
        · rw [e] at h; exact ih.1 h
        · exact ⟨q, hq, e⟩
    · rw [List.mem_cons, ih]
      constructor
      · rintro (rfl | ⟨q, hq, e⟩)
        · exact ⟨p, List.mem_cons_self .., rfl⟩
        · exact ⟨q, List.mem_cons_of_mem _ hq, e⟩
      · rintro ⟨q, hq, e⟩
        rcases List.mem_cons.1 hq with rfl | hq
        · exact .inl e.symm
        · exact .inr ⟨q, hq, e⟩
theorem nodup_keysK : ∀ (l : PRS), (keysK l).Nodup
  | [] => List.nodup_nil
  | p :: r => by
    unfold keysK
    split
    · exact nodup_keysK r
    · rename_i h
      exact List.nodup_cons.2 ⟨h, nodup_keysK r⟩
theorem len_keysK : ∀ (l : PRS), (keysK l).length ≤ l.length
  | [] => Nat.le_refl _
  | p :: r => by
    have := len_keysK r
    unfold keysK
    split
    · simp; omega
    · simp; omega
theorem keysK_perm {a b : PRS} (h : a.Perm b) : (keysK a).Perm (keysK b) :=
  (List.perm_ext_iff_of_nodup (nodup_keysK a) (nodup_keysK b)).2 (fun k => by
    rw [mem_keysK, mem_keysK]
    exact ⟨fun ⟨p, hp, e⟩ => ⟨p, h.mem_iff.1 hp, e⟩, fun ⟨p, hp, e⟩ => ⟨p, h.mem_iff.2 hp, e⟩⟩)
theorem valsK_perm {a b : PRS} (h : a.Perm b) (k : ByteArray) : (valsK a k).Perm (valsK b k) := (h.filter _).map _
theorem valsK_append (a b : PRS) (k : ByteArray) : valsK (a ++ b) k = valsK a k ++ valsK b k := by simp [valsK]
theorem valsK_cons (p : PR) (l : PRS) (k : ByteArray) : valsK (p :: l) k = if p.1 = k then p.2 :: valsK l k else valsK l k := by
  unfold valsK
  by_cases h : p.1 = k <;> simp [h]
theorem valsK_nil {l : PRS} {k : ByteArray} : valsK l k = [] ↔ k ∉ keysK l := by
  rw [mem_keysK]
  unfold valsK
  simp only [List.map_eq_nil_iff, List.filter_eq_nil_iff, decide_eq_true_eq]
  constructor
  · rintro h ⟨p, hp, e⟩; exact h p hp e
  · intro h p hp e; exact h ⟨p, hp, e⟩
theorem mem_valsK {l : PRS} {k : ByteArray} {v : Nat} : v ∈ valsK l k ↔ (k, v) ∈ l := by
  unfold valsK
  simp only [List.mem_map, List.mem_filter, decide_eq_true_eq]
  constructor
  · rintro ⟨p, ⟨h1, rfl⟩, rfl⟩; exact h1
  · intro h; exact ⟨_, ⟨h, rfl⟩, rfl⟩

/-- What comes of a key at a fold. -/
def foldV (w : Int) (l kept : PRS) (k : ByteArray) : Nat := (optJ w (getL kept k) (allO w (valsK l k))).getD 0
def foldOut (w : Int) (l kept : PRS) : PRS := (keysK l).map (fun k => (k, foldV w l kept k))
def foldKeep (w : Int) (l kept : PRS) : PRS := (foldOut w l kept).foldl (fun acc p => withL acc p.1 p.2) kept
def joinOut (w : Int) (l r : PRS) : PRS := ((keysK l).filter (fun k => decide (k ∈ keysK r))).map (fun k => (k, joinN w (allN w (valsK l k)) (allN w (valsK r k))))
def loopV (arg : Int) (num : Nat) (test : Int) (lim : Nat) : Nat → Nat → Nat
  | 0, v => v
  | n + 1, v => if testB test lim (mapN arg num v) then mapN arg num v else loopV arg num test lim n (mapN arg num v)
def oneP (o : TOp) (p : PR) : Option PR :=
  if o.fKind = 2 then some (p.1, mapN o.fArg o.fNum.toNat p.2)
  else if o.fKind = 7 then some (p.1, loopV o.fArg o.fNum.toNat o.fTest o.fLim.toNat o.fRounds.toNat p.2)
  else if o.fKind = 3 then (if testB o.fArg o.fNum.toNat p.2 then some p else none)
  else some p
def srcP (o : TOp) (r : TRecord) : Option PR := if o.fArg = -1 ∨ r.fPart = o.fArg then some (r.fKey, r.fVal.toNat) else none
/-- What comes out of an operator whose inputs are these. -/
def opOut (o : TOp) (a b : PRS) (kept : PRS) (recs : List TRecord) : PRS :=
  if o.fKind = 1 then recs.filterMap (srcP o)
  else if o.fKind = 6 then a ++ b
  else if o.fKind = 4 then foldOut o.fArg a kept
  else if o.fKind = 5 then joinOut o.fArg a b
  else a.filterMap (oneP o)
def opKeep (o : TOp) (a kept : PRS) : PRS := if o.fKind = 4 then foldKeep o.fArg a kept else []

theorem foldV_perm {w : Int} {a b kept : PRS} (h : a.Perm b) (k : ByteArray) : foldV w a kept k = foldV w b kept k := by
  unfold foldV
  rw [allO_perm w (valsK_perm h k)]
theorem foldOut_perm {w : Int} {a b kept : PRS} (h : a.Perm b) : (foldOut w a kept).Perm (foldOut w b kept) := by
  unfold foldOut
  have h1 := (keysK_perm h).map (fun k => (k, foldV w a kept k))
  rwa [show (fun k => (k, foldV w a kept k)) = (fun k => (k, foldV w b kept k)) from funext (fun k => by rw [foldV_perm h])] at h1 ⊢
theorem srt_ext : ∀ {a b : PRS}, Srt a → Srt b → (∀ k, getL a k = getL b k) → a = b := fun {a b} ha hb h => by
  have hp : a.Perm b := by
    have hnd : ∀ {c : PRS}, Srt c → c.Nodup := fun {c} hc => by
      unfold Srt at hc
      exact List.Pairwise.imp (S := fun p q => p ≠ q) (fun {p q} h e => less_ne h (congrArg Prod.fst e)) hc
    have hna := hnd ha
    have hnb := hnd hb
    refine (List.perm_ext_iff_of_nodup hna hnb).2 (fun p => ⟨fun hp => ?_, fun hp => ?_⟩)
    · exact getL_mem (by rw [← h]; exact getL_of_mem ha.nodup hp)
    · exact getL_mem (by rw [h]; exact getL_of_mem hb.nodup hp)
  unfold Srt at ha hb
  refine List.Perm.eq_of_pairwise (le := fun p q => Op.bytesLess p.1.toList q.1.toList = true) (fun p q _ _ h1 h2 => ?_) ha hb hp
  have := less_trans _ _ _ h1 h2
  rw [less_irr] at this
  cases this
theorem foldl_with_srt : ∀ (l kept : PRS), Srt kept → Srt (l.foldl (fun acc p => withL acc p.1 p.2) kept)
  | [], kept, h => h
  | p :: r, kept, h => foldl_with_srt r _ h.with
theorem getL_foldl : ∀ (l kept : PRS) (k : ByteArray), (l.map Prod.fst).Nodup → getL (l.foldl (fun acc p => withL acc p.1 p.2) kept) k = (getL l k).or (getL kept k)
  | [], kept, k, _ => rfl
  | p :: r, kept, k, hn => by
    rw [List.map_cons, List.nodup_cons] at hn
    rw [List.foldl_cons, getL_foldl r _ k hn.2, getL_withL]
    by_cases h : k = p.1
    · subst h
      have h1 : getL r p.1 = none := getL_none.2 (fun q hq e => hn.1 (List.mem_map.2 ⟨q, hq, e⟩))
      rw [h1]
      simp [getL]
    · have h1 : getL (p :: r) k = getL r k := by
        unfold getL
        rw [List.find?_cons]
        have : ¬ p.1 = k := fun e => h e.symm
        simp [this]
      rw [h1, if_neg h]
theorem foldOut_keys (w : Int) (l kept : PRS) : (foldOut w l kept).map Prod.fst = keysK l := by
  unfold foldOut
  rw [List.map_map]
  exact (List.map_congr_left (fun k _ => rfl)).trans (List.map_id _)
theorem getL_mapk (f : ByteArray → Nat) : ∀ (ks : List ByteArray) (k : ByteArray), getL (ks.map (fun k => (k, f k))) k = if k ∈ ks then some (f k) else none
  | [], k => rfl
  | a :: r, k => by
    have ih := getL_mapk f r k
    unfold getL at ih ⊢
    rw [List.map_cons, List.find?_cons]
    by_cases h : a = k
    · subst h; simp
    · simp only [h, decide_false]
      rw [ih]
      have : ¬ k = a := fun e => h e.symm
      simp [this]
theorem getL_foldOut (w : Int) (l kept : PRS) (k : ByteArray) : getL (foldOut w l kept) k = if k ∈ keysK l then some (foldV w l kept k) else none := getL_mapk _ _ _
theorem getL_foldKeep (w : Int) (l kept : PRS) (k : ByteArray) : getL (foldKeep w l kept) k = if k ∈ keysK l then some (foldV w l kept k) else getL kept k := by
  unfold foldKeep
  rw [getL_foldl _ _ _ (by rw [foldOut_keys]; exact nodup_keysK l), getL_foldOut]
  split <;> rfl
theorem foldKeep_srt {w : Int} {l kept : PRS} (h : Srt kept) : Srt (foldKeep w l kept) := foldl_with_srt _ _ h
theorem foldKeep_perm {w : Int} {a b kept : PRS} (hs : Srt kept) (h : a.Perm b) : foldKeep w a kept = foldKeep w b kept :=
  srt_ext (foldKeep_srt hs) (foldKeep_srt hs) (fun k => by
    rw [getL_foldKeep, getL_foldKeep, foldV_perm h]
    simp only [(keysK_perm h).mem_iff])
theorem allN_permS {w : Int} {a b : List Nat} (h : a.Perm b) : allN w a = allN w b := by unfold allN; rw [allO_perm w h]
theorem joinOut_perm {w : Int} {a b c d : PRS} (h : a.Perm b) (h2 : c.Perm d) : (joinOut w a c).Perm (joinOut w b d) := by
  unfold joinOut
  have e1 : (fun k => (k, joinN w (allN w (valsK a k)) (allN w (valsK c k)))) = (fun k => (k, joinN w (allN w (valsK b k)) (allN w (valsK d k)))) :=
    funext (fun k => by rw [allN_permS (valsK_perm h k), allN_permS (valsK_perm h2 k)])
  have e2 : (fun k => decide (k ∈ keysK c)) = (fun k => decide (k ∈ keysK d)) := funext (fun k => by simp only [(keysK_perm h2).mem_iff])
  rw [e1, e2]
  exact ((keysK_perm h).filter _).map _
theorem opOut_perm {o : TOp} {a a' b b' kept : PRS} {recs recs' : List TRecord} (h : a.Perm a') (h2 : b.Perm b') (h3 : recs.Perm recs') : (opOut o a b kept recs).Perm (opOut o a' b' kept recs') := by
  unfold opOut
  split
  · exact h3.filterMap _
  split
  · exact h.append h2
  split
  · exact foldOut_perm h
  split
  · exact joinOut_perm h h2
  · exact h.filterMap _

/-- The order of pairs. -/
def ltP (p q : PR) : Prop := Op.bytesLess p.1.toList q.1.toList = true ∨ (p.1 = q.1 ∧ p.2 < q.2)
instance (p q : PR) : Decidable (ltP p q) := by unfold ltP; infer_instance
instance {α : Type} (l : List (ByteArray × α)) : Decidable (Srt l) := by unfold Srt; infer_instance
theorem ltP_irr (p : PR) : ¬ ltP p p := by
  rintro (h | ⟨_, h⟩)
  · rw [less_irr] at h; cases h
  · omega
theorem ltP_trans {p q r : PR} (h1 : ltP p q) (h2 : ltP q r) : ltP p r := by
  rcases h1 with h1 | ⟨e1, h1⟩
  · rcases h2 with h2 | ⟨e2, h2⟩
    · exact .inl (less_trans _ _ _ h1 h2)
    · exact .inl (by rw [← e2]; exact h1)
  · rcases h2 with h2 | ⟨e2, h2⟩
    · exact .inl (by rw [e1]; exact h2)
    · exact .inr ⟨e1.trans e2, by omega⟩
theorem ltP_total {p q : PR} (h : p ≠ q) : ltP p q ∨ ltP q p := by
  by_cases e : p.1 = q.1
  · have : p.2 ≠ q.2 := fun e2 => h (Prod.ext e e2)
    rcases Nat.lt_or_gt_of_ne this with h1 | h1
    · exact .inl (.inr ⟨e, h1⟩)
    · exact .inr (.inr ⟨e.symm, h1⟩)
  · cases hb : Op.bytesLess p.1.toList q.1.toList with
    | true => exact .inl (.inl hb)
    | false => exact .inr (.inl (less_total _ _ hb (fun e2 => e (toList_inj.1 e2))))
def leP (p q : PR) : Bool := !decide (ltP q p)
theorem leP_total (p q : PR) : (leP p q || leP q p) = true := by
  unfold leP
  by_cases h1 : ltP q p
  · have h2 : ¬ ltP p q := fun h => ltP_irr _ (ltP_trans h h1)
    simp [h2]
  · simp [h1]
theorem leP_trans (p q r : PR) (h1 : leP p q = true) (h2 : leP q r = true) : leP p r = true := by
  unfold leP at *
  simp only [Bool.not_eq_true', decide_eq_false_iff_not] at *
  intro h
  by_cases e : p = q
  · subst e; exact h2 h
  · rcases ltP_total e with h3 | h3
    · exact h2 (ltP_trans h h3)
    · exact h1 h3
theorem leP_anti {p q : PR} (h1 : leP p q = true) (h2 : leP q p = true) : p = q := by
  unfold leP at *
  simp only [Bool.not_eq_true', decide_eq_false_iff_not] at *
  refine Decidable.byContradiction fun e => ?_
  rcases ltP_total e with h | h
  · exact h2 h
  · exact h1 h
/-- Pairs in their order. -/
def sortP (l : PRS) : PRS := l.mergeSort leP
theorem sortP_perm (l : PRS) : (sortP l).Perm l := List.mergeSort_perm _ _
theorem sortP_sorted (l : PRS) : (sortP l).Pairwise (fun p q => leP p q = true) := List.pairwise_mergeSort leP_trans leP_total l
theorem sortP_eq {l m : PRS} (hp : m.Perm l) (hs : m.Pairwise (fun p q => leP p q = true)) : m = sortP l :=
  List.Perm.eq_of_pairwise (le := fun p q => leP p q = true) (fun p q _ _ h1 h2 => leP_anti h1 h2) hs (sortP_sorted l) (hp.trans (sortP_perm l).symm)
theorem sortP_congr {l m : PRS} (hp : l.Perm m) : sortP l = sortP m := sortP_eq ((sortP_perm l).trans hp) (sortP_sorted l)
theorem ltP_leP {p q : PR} (h : ltP p q) : leP p q = true := by
  unfold leP
  have : ¬ ltP q p := fun h2 => ltP_irr _ (ltP_trans h h2)
  simp [this]
theorem srt_sortP {l : PRS} (h : Srt l) : sortP l = l := by
  unfold Srt at h
  exact (sortP_eq (.refl _) (List.Pairwise.imp (fun h => ltP_leP (.inl h)) h)).symm

/-- A state as it is kept: operator by operator; none: the empty one. -/
abbrev ST := List PRS
def keptAt (s : ST) (i : Nat) : PRS := s[i]?.getD []
def goodS (ops : List TOp) (s : ST) : Bool :=
  decide (s.length = 0) || (decide (s.length = ops.length) && (List.range s.length).all fun i =>
    (decide ((keptAt s i).length = 0) || decide ((ops[i]?.map TOp.fKind) = some 4)) && (keptAt s i).all (fun p => decide (p.1.size ≤ 32)) && decide (Srt (keptAt s i)))
def inAt (f : List PRS) (o : TOp) (k : Nat) : PRS := ((o.fIn[k]?).bind (fun j => f[j.toNat]?)).getD []
/-- The operators one behind the other: what came of those ahead is f, what they keep is n. -/
def runF (s : ST) (recs : List TRecord) : List TOp → List PRS → ST → Option (List PRS × ST)
  | [], f, n => some (f, n)
  | o :: r, f, n =>
    if 4096 < (opOut o (inAt f o 0) (inAt f o 1) (keptAt s f.length) recs).length then none
    else runF s recs r (f ++ [opOut o (inAt f o 0) (inAt f o 1) (keptAt s f.length) recs]) (n ++ [opKeep o (inAt f o 0) (keptAt s f.length)])
/-- What Run answers. -/
def runM (ops : List TOp) (s : ST) (recs : List TRecord) : PRS × ST × Nat :=
  if (gcheck ops).2 ≠ 0 then ([], [], 13)
  else if goodS ops s = false then ([], [], 3)
  else if 512 < recs.length then ([], [], 2)
  else match runF s recs ops [] [] with
    | none => ([], [], 2)
    | some (f, n) => (sortP (f.getLast?.getD []), n, 0)
end Go.Proofs.Ytbianedgogdeeaa
