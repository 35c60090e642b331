/- Gossip: what lies behind any moves of a computation: plain Lean. -/
import Derived.Test.YtjmbafcpbagpdaaJn
import Derived.Test.YtjmbafcpbagpdaaJ13
import Derived.Test.YtjmbafcpbagpdaaJ15
namespace Go.Proofs.Ytjmbafcpbagpdaa
open Go.RowKit Go.Shelf Go.Maps
set_option linter.unusedVariables false
set_option linter.unusedSimpArgs false

/-- All that is on its way to b. -/
def toB (m : GM) (b : Nat) : List (List TCount) := (List.range m.n).flatMap fun a => m.wy (a * 8 + b)
theorem flat_succ {α : Type} (f : Nat → List α) (k : Nat) : (List.range (k + 1)).flatMap f = (List.range k).flatMap f ++ f k := by
  rw [List.range_succ, List.flatMap_append]
  simp
theorem pend_bd {B : Nat} {f : Nat → List (List TCount)} {s : TStamp} {i : Nat} (hB : ∀ a, (∀ l ∈ f a, -(B : Int) ≤ totC l s ∧ totC l s ≤ B)) : ∀ {Ls : List (List TCount)}, (∀ l ∈ Ls, -(B : Int) ≤ totC l s ∧ totC l s ≤ B) → -(B : Int) * Ls.length ≤ pendT Ls s ∧ pendT Ls s ≤ (B : Int) * Ls.length
  | [], _ => by rw [pendT_nil]; simp
  | l :: Ls, h => by
    rw [pendT_cons, List.length_cons]
    have h1 := h l (by simp)
    have h2 := pend_bd hB (i := i) (Ls := Ls) (fun k hk => h k (by simp [hk]))
    push_cast
    rw [Int.mul_add, Int.mul_add]
    omega
theorem pend_range {B i : Nat} {f : Nat → List (List TCount)} {s : TStamp} : ∀ (n : Nat), (∀ a, a < n → (f a).length ≤ i ∧ ∀ l ∈ f a, -(B : Int) ≤ totC l s ∧ totC l s ≤ B) → -((B * i : Nat) : Int) * n ≤ pendT ((List.range n).flatMap f) s ∧ pendT ((List.range n).flatMap f) s ≤ ((B * i : Nat) : Int) * n
  | 0, _ => by simp [pendT_nil]
  | n + 1, h => by
    rw [flat_succ, pendT_append]
    obtain ⟨h1, h2⟩ := h n (by omega)
    have h3 := pend_range (B := B) (i := i) (s := s) (f := f) n (fun a ha => h a (by omega))
    have h4 := pend_bd (B := B) (f := fun _ => []) (s := s) (i := i) (by simp) h2
    have h5 : (B : Int) * (f n).length ≤ ((B * i : Nat) : Int) := by exact_mod_cast Nat.mul_le_mul_left B h1
    have h6 : -(B : Int) * (f n).length = -((B : Int) * (f n).length) := Int.neg_mul _ _
    push_cast at h3 h5 ⊢
    rw [h6] at h4
    rw [Int.mul_add, Int.mul_add, Int.mul_one, Int.mul_one]
    omega
theorem pend_point {f g : Nat → List (List TCount)} {k : Nat} {s : TStamp} {d : Int} (hd : pendT (g k) s = pendT (f k) s + d) : ∀ (n : Nat), (∀ a, a < n → a ≠ k → g a = f a) → pendT ((List.range n).flatMap g) s = pendT ((List.range n).flatMap f) s + if k < n then d else 0
  | 0, _ => by simp [pendT_nil]
  | n + 1, h => by
    rw [flat_succ, flat_succ, pendT_append, pendT_append, pend_point hd n (fun a ha => h a (by omega))]
    by_cases e : n = k
    · subst e
      rw [hd, if_neg (by omega), if_pos (by omega)]
      omega
    · rw [h n (by omega) e]
      by_cases h2 : k < n
      · rw [if_pos h2, if_pos (by omega)]; omega
      · rw [if_neg h2, if_neg (by omega)]; omega
theorem pend_none {s : TStamp} : ∀ {Ls : List (List TCount)}, (∀ l ∈ Ls, totC l s = 0) → pendT Ls s = 0
  | [], _ => rfl
  | l :: Ls, h => by rw [pendT_cons, h l (by simp), pend_none (Ls := Ls) (fun k hk => h k (by simp [hk])), Int.add_zero]

/-- A gossip behind i moves. -/
structure AI (ops : List TOp) (n i : Nat) (K : List TStamp) (m : GM) : Prop where
  hn : m.n = n
  n8 : 1 ≤ n ∧ n ≤ 8
  eqv : ∀ b, b < n → ∀ s, m.c 0 s = m.c (b + 1) s + pendT (toB m b) s
  len : ∀ a b, a < n → b < n → (m.wy (a * 8 + b)).length ≤ i
  oks : ∀ a b, a < n → b < n → ∀ l ∈ m.wy (a * 8 + b), l.all (okC ops) = true ∧ (∀ s, -16777301 ≤ totC l s ∧ totC l s ≤ 16777301) ∧ (∀ s, totC l s ≠ 0 → s ∈ K)
  tru : ∀ s, -2251799813685248 - (i : Int) * 16777301 ≤ m.c 0 s ∧ m.c 0 s ≤ 2251799813685248 + (i : Int) * 16777301
  sup : ∀ s, m.c 0 s ≠ 0 → s ∈ K
  kl : K.length ≤ 1048576 + i * 16777301
  i50 : i ≤ 50
theorem upd_easy {ops : List TOp} {c : CF} {l : List TCount} (h : l.all (okC ops) = true) (hb : ∀ s, -16777301 ≤ totC l s ∧ totC l s ≤ 16777301) (hc : ∀ s, -4503599627370496 ≤ c s ∧ c s ≤ 4503599627370496) : updF ops c l = 0 ∧ ∀ s, addF c l s = c s + totC l s := by
  refine ⟨?_, fun s => ?_⟩
  · unfold updF
    rw [if_neg (by simp [h]), if_pos]
    intro p hp
    unfold passF
    have h1 := hb p.1
    have h2 := hc p.1
    rw [nxL_val hp, IntWalk.wrap64_in (totC l p.1) (by omega), IntWalk.wrap64_in _ (by omega)]
    omega
  · have h1 := hb s
    have h2 := hc s
    unfold addF
    exact IntWalk.wrap64_in _ (by omega)
namespace AI
variable {ops : List TOp} {n i : Nat} {K K' : List TStamp} {m m' : GM}
theorem pend (h : AI ops n i K m) {b : Nat} (hb : b < n) (s : TStamp) : -6710920400 ≤ pendT (toB m b) s ∧ pendT (toB m b) s ≤ 6710920400 := by
  have h1 := pend_range (B := 16777301) (i := 50) (s := s) (f := fun a => m.wy (a * 8 + b)) m.n (fun a ha => ⟨Nat.le_trans (h.len a b (by have := h.hn; omega) hb) h.i50, fun l hl => by have := (h.oks a b (by have := h.hn; omega) hb l hl).2.1 s; omega⟩)
  have h2 := h.hn
  have h3 := h.n8
  unfold toB
  rw [h2] at h1 ⊢
  obtain ⟨h4, h5⟩ := h1
  have h6 : ((n : Nat) : Int) ≤ 8 := by omega
  have h7 : (0 : Int) ≤ n := by omega
  constructor
  · have : -((16777301 * 50 : Nat) : Int) * n ≥ -((16777301 * 50 : Nat) : Int) * 8 := Int.mul_le_mul_of_nonpos_left (by omega) (by omega)
    omega
  · have : ((16777301 * 50 : Nat) : Int) * n ≤ ((16777301 * 50 : Nat) : Int) * 8 := Int.mul_le_mul_of_nonneg_left h6 (by omega)
    omega
theorem truB (h : AI ops n i K m) (s : TStamp) : -2251900000000000 ≤ m.c 0 s ∧ m.c 0 s ≤ 2251900000000000 := by
  have h1 := h.tru s
  have h2 := h.i50
  omega
theorem view (h : AI ops n i K m) {b : Nat} (hb : b < n) (s : TStamp) : -4503599627370496 ≤ m.c (b + 1) s ∧ m.c (b + 1) s ≤ 4503599627370496 := by
  have h1 := h.eqv b hb s
  have h2 := h.pend hb s
  have h3 := h.truB s
  omega
theorem all (h : AI ops n i K m) {b : Nat} (hb : b < n) : ∀ l ∈ toB m b, l.all (okC ops) = true ∧ (∀ s, -16777301 ≤ totC l s ∧ totC l s ≤ 16777301) ∧ (∀ s, totC l s ≠ 0 → s ∈ K) := fun l hl => by
  obtain ⟨a, ha, hl⟩ := List.mem_flatMap.1 hl
  have h1 := List.mem_range.1 ha
  rw [h.hn] at h1
  exact h.oks a b h1 hb l hl
theorem vsup (h : AI ops n i K m) {b : Nat} (hb : b < n) (s : TStamp) (hs : m.c (b + 1) s ≠ 0) : s ∈ K := by
  by_cases hk : s ∈ K
  · exact hk
  · exfalso
    have h1 := h.eqv b hb s
    have h2 : m.c 0 s = 0 := Classical.byContradiction fun e => hk (h.sup s e)
    have h3 := pend_none (s := s) (Ls := toB m b) (fun l hl => Classical.byContradiction fun e => hk ((h.all hb l hl).2.2 s e))
    omega
set_option maxRecDepth 100000 in
theorem succ (h : AI ops n i K m) (hi : i < 50) : AI ops n (i + 1) K m :=
  ⟨h.hn, h.n8, h.eqv, fun a b ha hb => Nat.le_succ_of_le (h.len a b ha hb), h.oks, fun s => by have := h.tru s; omega, h.sup, Nat.le_trans h.kl (Nat.add_le_add_left (Nat.mul_le_mul_right _ (Nat.le_succ i)) _), by omega⟩
theorem wider (h : AI ops n i K m) (hK : ∀ s ∈ K, s ∈ K') (hl : K'.length ≤ 1048576 + i * 16777301) : AI ops n i K' m :=
  ⟨h.hn, h.n8, h.eqv, h.len, fun a b ha hb l hl => by obtain ⟨h1, h2, h3⟩ := h.oks a b ha hb l hl; exact ⟨h1, h2, fun s hs => hK s (h3 s hs)⟩, h.tru, fun s hs => hK s (h.sup s hs), hl, h.i50⟩
/-- Both answer a Do alike. -/
theorem doE_eq (h : AI ops n i K m) (h' : AI ops n i K' m') (he : m.c 0 = m'.c 0) (k : Int) (l : List TCount) : doE ops m k l = doE ops m' k l := by
  unfold doE
  rw [h.hn, h'.hn, he]
  by_cases hk : ¬ (0 ≤ k ∧ k < (n : Int))
  · rw [if_pos hk, if_pos hk]
  · have hk2 := Classical.not_not.1 hk
    have h1 : ¬ ∃ j, j < n ∧ 4096 ≤ (m.wy (k.toNat * 8 + j)).length := fun ⟨j, hj, h2⟩ => by have := h.len k.toNat j (by omega) hj; have := h.i50; omega
    have h2 : ¬ ∃ j, j < n ∧ 4096 ≤ (m'.wy (k.toNat * 8 + j)).length := fun ⟨j, hj, h2⟩ => by have := h'.len k.toNat j (by omega) hj; have := h.i50; omega
    rw [if_neg h1, if_neg h2]
theorem doM_eq (h : AI ops n i K m) (h' : AI ops n i K' m') (he : m.c 0 = m'.c 0) (k : Int) (l : List TCount) : (doM ops m k l).c 0 = (doM ops m' k l).c 0 := by
  unfold doM
  rw [doE_eq h h' he]
  split
  · unfold GM.told
    simp [he]
  · exact he
theorem dlvM_c0 (m : GM) (a b : Int) : (dlvM ops m a b).c 0 = m.c 0 := by
  unfold dlvM
  split
  · simp
  · rfl
theorem doing (h : AI ops n i K m) (hi : i < 50) {k : Int} {l : List TCount} (hl : ∀ s, -16777301 ≤ totC l s ∧ totC l s ≤ 16777301) (hll : l.length ≤ 16777301) : AI ops n (i + 1) (K ++ l.map (·.fS)) (doM ops m k l) := by
  have hw : AI ops n (i + 1) (K ++ l.map (·.fS)) m := (h.succ hi).wider (fun s hs => List.mem_append.2 (.inl hs)) (by rw [List.length_append, List.length_map]; have := h.kl; omega)
  unfold doM
  by_cases hE : doE ops m k l = 0
  · rw [if_pos hE]
    have hkn : 0 ≤ k ∧ k < (n : Int) := by
      rw [← h.hn]
      by_cases hk : 0 ≤ k ∧ k < (m.n : Int)
      · exact hk
      · unfold doE at hE
        rw [if_pos hk] at hE
        omega
    have hok : l.all (okC ops) = true := by
      by_cases ho : l.all (okC ops) = false
      · unfold doE at hE
        rw [h.hn, if_neg (by omega), if_pos ho] at hE
        omega
      · simpa using ho
    have hadd := (upd_easy (c := m.c 0) hok hl (fun s => by have := h.truB s; omega)).2
    have hwy : ∀ a b, a < n → b < n → (m.told k.toNat l).wy (a * 8 + b) = if a = k.toNat then m.wy (a * 8 + b) ++ [l] else m.wy (a * 8 + b) := fun a b ha hb => by
      have h8 := h.n8
      have hn := h.hn
      unfold GM.told
      dsimp only
      by_cases e : a = k.toNat
      · rw [if_pos e, if_pos (by omega)]
      · rw [if_neg e, if_neg (by omega)]
    refine ⟨h.hn, h.n8, fun b hb s => ?_, fun a b ha hb => ?_, fun a b ha hb l' hl' => ?_, fun s => ?_, fun s hs => ?_, hw.kl, hw.i50⟩
    · have hp : pendT (toB (m.told k.toNat l) b) s = pendT (toB m b) s + totC l s := by
        unfold toB
        have hn2 : (m.told k.toNat l).n = m.n := rfl
        rw [hn2, pend_point (f := fun a => m.wy (a * 8 + b)) (k := k.toNat) (d := totC l s) ?_ m.n (fun a ha hk => ?_), if_pos (by rw [h.hn]; omega)]
        · show pendT ((m.told k.toNat l).wy (k.toNat * 8 + b)) s = _
          rw [hwy _ b (by omega) hb, if_pos rfl, pendT_append, pendT_cons, pendT_nil, Int.add_zero]
        · show (m.told k.toNat l).wy (a * 8 + b) = _
          rw [hwy a b (by rw [← h.hn]; exact ha) hb, if_neg hk]
      have h1 : (m.told k.toNat l).c 0 s = m.c 0 s + totC l s := by unfold GM.told; simp only [if_pos]; exact hadd s
      have h2 : (m.told k.toNat l).c (b + 1) s = m.c (b + 1) s := by unfold GM.told; simp
      rw [h1, h2, hp, h.eqv b hb s]
      omega
    · rw [hwy a b ha hb]
      have := h.len a b ha hb
      split
      · rw [List.length_append, List.length_singleton]; omega
      · omega
    · rw [hwy a b ha hb] at hl'
      have hold := fun hx => hw.oks a b ha hb l' hx
      split at hl'
      · rcases List.mem_append.1 hl' with h1 | h1
        · exact hold h1
        · obtain rfl := List.mem_singleton.1 h1
          exact ⟨hok, hl, fun s hs => List.mem_append.2 (.inr (tot_key hs))⟩
      · exact hold hl'
    · have h1 : (m.told k.toNat l).c 0 s = m.c 0 s + totC l s := by unfold GM.told; simp only [if_pos]; exact hadd s
      rw [h1]
      have h2 := h.tru s
      have h3 := hl s
      omega
    · have h1 : (m.told k.toNat l).c 0 s = m.c 0 s + totC l s := by unfold GM.told; simp only [if_pos]; exact hadd s
      rw [h1] at hs
      by_cases h2 : m.c 0 s = 0
      · exact List.mem_append.2 (.inr (tot_key (by omega)))
      · exact List.mem_append.2 (.inl (h.sup s h2))
  · rw [if_neg hE]
    exact hw
theorem dlv (h : AI ops n i K m) (a b : Int) : AI ops n i K (dlvM ops m a b) := by
  unfold dlvM
  by_cases hE : dlvE m a b = 0
  · rw [if_pos hE]
    have hab : (0 ≤ a ∧ a < (n : Int)) ∧ (0 ≤ b ∧ b < (n : Int)) := by
      rw [← h.hn]
      by_cases hk : (0 ≤ a ∧ a < (m.n : Int)) ∧ (0 ≤ b ∧ b < (m.n : Int))
      · exact hk
      · unfold dlvE at hE
        rw [if_pos hk] at hE
        omega
    have hne : m.wy (a.toNat * 8 + b.toNat) ≠ [] := fun e => by
      unfold dlvE at hE
      rw [h.hn, if_neg (by omega), if_pos e] at hE
      omega
    obtain ⟨a, rfl⟩ : ∃ x : Nat, a = (x : Int) := ⟨a.toNat, by omega⟩
    obtain ⟨b, rfl⟩ : ∃ x : Nat, b = (x : Int) := ⟨b.toNat, by omega⟩
    simp only [Int.toNat_natCast] at hne ⊢
    have han : a < n := by omega
    have hbn : b < n := by omega
    obtain ⟨l, r, hlr⟩ := List.exists_cons_of_ne_nil hne
    have hl := h.oks a b han hbn l (by rw [hlr]; simp)
    obtain ⟨hu, hadd⟩ := upd_easy (c := m.c (b + 1)) hl.1 hl.2.1 (fun s => h.view hbn s)
    have h8 := h.n8
    rw [hlr]
    simp only [List.headD_cons]
    have hnx : nextF ops (m.c (b + 1)) l = addF (m.c (b + 1)) l := by unfold nextF; rw [if_pos hu]
    have hwy : ∀ a' b', a' < n → b' < n → (if a' * 8 + b' = a * 8 + b then (m.wy (a' * 8 + b')).tail else m.wy (a' * 8 + b')) = if a' = a ∧ b' = b then r else m.wy (a' * 8 + b') := fun a' b' ha' hb' => by
      by_cases e : a' = a ∧ b' = b
      · obtain ⟨rfl, rfl⟩ := e
        rw [if_pos rfl, if_pos ⟨rfl, rfl⟩, hlr]
        rfl
      · rw [if_neg (by omega), if_neg e]
    refine ⟨h.hn, h.n8, fun b' hb' s => ?_, fun a' b' ha' hb' => ?_, fun a' b' ha' hb' l' hl' => ?_, fun s => ?_, fun s hs => ?_, h.kl, h.i50⟩
    · have h0 : (if (0 : Nat) = b + 1 then nextF ops (m.c 0) l else m.c 0) = m.c 0 := if_neg (by omega)
      show (if (0 : Nat) = b + 1 then nextF ops (m.c 0) l else m.c 0) s = (if b' + 1 = b + 1 then nextF ops (m.c (b' + 1)) l else m.c (b' + 1)) s + pendT ((List.range m.n).flatMap fun x => if x * 8 + b' = a * 8 + b then (m.wy (x * 8 + b')).tail else m.wy (x * 8 + b')) s
      rw [h0, h.eqv b' hb' s]
      have hp := pend_point (f := fun x => m.wy (x * 8 + b')) (g := fun x => if x * 8 + b' = a * 8 + b then (m.wy (x * 8 + b')).tail else m.wy (x * 8 + b')) (k := a) (s := s) (d := if b' = b then - totC l s else 0) (by
        show pendT (if a * 8 + b' = a * 8 + b then (m.wy (a * 8 + b')).tail else m.wy (a * 8 + b')) s = pendT (m.wy (a * 8 + b')) s + if b' = b then - totC l s else 0
        rw [hwy a b' han hb']
        by_cases e : b' = b
        · rw [if_pos ⟨rfl, e⟩, if_pos e, e, hlr, pendT_cons]; omega
        · rw [if_neg (fun x => e x.2), if_neg e]; omega) m.n (fun x hx hxa => by
        show (if x * 8 + b' = a * 8 + b then (m.wy (x * 8 + b')).tail else m.wy (x * 8 + b')) = m.wy (x * 8 + b')
        rw [hwy x b' (by rw [← h.hn]; exact hx) hb', if_neg (fun y => hxa y.1)])
      rw [if_pos (by rw [h.hn]; exact han)] at hp
      rw [hp]
      unfold toB
      by_cases e : b' = b
      · subst e
        rw [if_pos rfl, if_pos rfl, hnx, hadd]
        omega
      · rw [if_neg (by omega), if_neg e]
        omega
    · show (if a' * 8 + b' = a * 8 + b then (m.wy (a' * 8 + b')).tail else m.wy (a' * 8 + b')).length ≤ i
      have := h.len a' b' ha' hb'
      split
      · rw [List.length_tail]; omega
      · exact this
    · have hl2 : l' ∈ m.wy (a' * 8 + b') := by
        have hx : l' ∈ (if a' * 8 + b' = a * 8 + b then (m.wy (a' * 8 + b')).tail else m.wy (a' * 8 + b')) := hl'
        split at hx
        · exact List.mem_of_mem_tail hx
        · exact hx
      exact h.oks a' b' ha' hb' l' hl2
    · show _ ≤ (if (0 : Nat) = b + 1 then nextF ops (m.c 0) l else m.c 0) s ∧ (if (0 : Nat) = b + 1 then nextF ops (m.c 0) l else m.c 0) s ≤ _
      rw [if_neg (by omega)]
      exact h.tru s
    · have hx : (if (0 : Nat) = b + 1 then nextF ops (m.c 0) l else m.c 0) s ≠ 0 := hs
      rw [if_neg (by omega)] at hx
      exact h.sup s hx
  · rw [if_neg hE]
    exact h
/-- All delivered: the view is the truth. -/
theorem fin (h : AI ops n i K m) {b : Nat} (hb : b < n) (hw : ∀ a, a < n → m.wy (a * 8 + b) = []) : m.c (b + 1) = m.c 0 := by
  funext s
  have h1 := h.eqv b hb s
  have h2 : toB m b = [] := by
    unfold toB
    rw [List.flatMap_eq_nil_iff]
    intro a ha
    have := List.mem_range.1 ha
    exact hw a (by rw [← h.hn]; exact this)
  rw [h2, pendT_nil] at h1
  omega
theorem start {k : Int} {bl : List TCount} (h : newGE ops k bl = 0) (hl : bl.length ≤ 1048576) : AI ops k.toNat 0 (bl.map (·.fS)) (newGM k.toNat bl) := by
  unfold newGE at h
  by_cases h1 : (gcheck ops).2 ≠ 0
  · rw [if_pos h1] at h; omega
  rw [if_neg h1] at h
  by_cases h2 : ¬ (1 ≤ k ∧ k ≤ 8)
  · rw [if_pos h2] at h; omega
  rw [if_neg h2] at h
  by_cases h3 : ∃ c ∈ bl, c.fN < 0
  · rw [if_pos h3] at h; omega
  rw [if_neg h3] at h
  by_cases h4 : updF ops (fun _ => 0) bl ≠ 0
  · rw [if_pos h4] at h; omega
  have hok := updF_ok (Classical.not_not.1 h4)
  have hc : ∀ s, addF (fun _ => 0) bl s = totC bl s ∧ -2251799813685248 ≤ totC bl s ∧ totC bl s ≤ 2251799813685248 := fun s => by
    have := tot_range s hok
    have h5 : (bl.length : Int) ≤ 1048576 := by omega
    have h6 : -2251799813685248 ≤ totC bl s ∧ totC bl s ≤ 2251799813685248 := by omega
    refine ⟨?_, h6⟩
    unfold addF
    rw [Int.zero_add]
    exact IntWalk.wrap64_in _ (by omega)
  refine ⟨rfl, by omega, fun b hb s => ?_, fun a b _ _ => Nat.le_refl _, fun a b _ _ l hl => (by cases hl), fun s => ?_, fun s hs => ?_, by rw [List.length_map]; omega, by omega⟩
  · have : toB (newGM k.toNat bl) b = [] := by unfold toB newGM; simp
    rw [this, pendT_nil, Int.add_zero]
    rfl
  · have := hc s
    show _ ≤ addF (fun _ => 0) bl s ∧ addF (fun _ => 0) bl s ≤ _
    omega
  · have := hc s
    have hs2 : addF (fun _ => 0) bl s ≠ 0 := hs
    exact tot_key (by omega)
end AI
/-- The bound of the keys is that of what was told. -/
theorem Gos.tight {w : World} {A U gb N M : Nat} {X : Nat → Prop} {p : GP} {ops : List TOp} {n i : Nat} {K : List TStamp} {m : GM} (h : Gos w A U X gb p ops m N M) (hA : AI ops n i K m) : Gos w A U X gb p ops m (1048576 + i * 16777301) M :=
  ⟨h.n1, h.n8, h.blk, h.vws, h.gr, fun j hj => by
    obtain ⟨⟨cs, h1, h2, h3⟩, h4⟩ := h.trs j hj
    refine ⟨⟨cs, h1, h2, Nat.le_trans (keys_len h1 (K := K) (fun s hs => ?_)) hA.kl⟩, h4⟩
    rw [h2] at hs
    rcases Nat.eq_zero_or_pos j with rfl | hp
    · exact hA.sup s hs
    · obtain ⟨b, rfl⟩ : ∃ b, j = b + 1 := ⟨j - 1, by omega⟩
      exact hA.vsup (by rw [← hA.hn]; omega) s hs, h.dis, h.dg, h.dv, h.dgr, h.dtr, h.inT, h.inG, h.xU, h.uw, h.ok⟩
end Go.Proofs.Ytjmbafcpbagpdaa

/- Gossip: the walk of GossipAlike. -/
namespace Go.Proofs.Ytjmbafcpbagpdaa
open Go.RowKit Go.Shelf Go.Maps
set_option linter.unusedVariables false
set_option linter.unusedSimpArgs false

theorem uses_lenJ {ops : List TOp} (fr : Int) (h : ∀ o ∈ ops, o.fIn.length ≤ 1048576) : ∀ m, m ≤ ops.length → (usesK ops fr m).length ≤ m * 1048576
  | 0, _ => by simp [usesK]
  | m + 1, hm => by
    have hx : ops[m]? = some ops[m] := List.getElem?_eq_getElem (by omega)
    rw [usesK_succ ops fr m _ hx, List.length_append]
    have h1 := uses_lenJ fr h m (by omega)
    have h2 : (insK m ops[m].fIn fr ops[m].fIn.length).length ≤ ops[m].fIn.length := by
      unfold insK
      rw [List.length_map]
      exact Nat.le_trans (List.length_filter_le _ _) (by rw [List.length_range]; exact Nat.le_refl _)
    have h3 := h ops[m] (List.getElem_mem _)
    omega
theorem next_lenJ {ops : List TOp} (hn : ops.length ≤ 16) (h : ∀ o ∈ ops, o.fIn.length ≤ 1048576) (s : TStamp) : (nextS ops s.fLoc s.fT.fEpoch s.fT.fRound).length ≤ 16777300 := by
  unfold nextS
  split
  · rw [List.length_append, List.length_map]
    have h1 := uses_lenJ s.fLoc h ops.length (Nat.le_refl _)
    have h2 : (furS ops s.fLoc s.fT.fEpoch s.fT.fRound).length ≤ 1 := by unfold furS; split <;> simp
    unfold usesL
    have h3 : ops.length * 1048576 ≤ 16 * 1048576 := Nat.mul_le_mul_right _ hn
    omega
  · simp
theorem mov_bd {s : TStamp} {t : List TStamp} (ht : t.length ≤ 16777300) (x : TStamp) : -16777301 ≤ totC (movC s t) x ∧ totC (movC s t) x ≤ 16777301 := by
  unfold movC
  rw [totC_cons, tot_ones]
  have h1 := cntA_range x t
  dsimp only
  split <;> omega
/-- What lies behind a call of step. -/
theorem step_rows {W : World} {base : Nat} {v : Value} {ops : List TOp} {l : List TCount} {m : GM} (hok : (gcheck ops).2 = 0) (hn : ops.length ≤ 1000) (ho : OwnL encK W base 57 4 v l) (hl : l = [] ∨ ∃ s t, l = movC s t ∧ 0 < m.c 0 s ∧ wfS s ∧ (∀ a ∈ t, a ∈ nextS ops s.fLoc s.fT.fEpoch s.fT.fRound) ∧ t.length ≤ 16777300) :
    (∃ ao cap, v = .slice ao l.length cap ∧ SlA W.heap.size 4 (RCount W.heap.size) W ao cap l) ∧ l.length ≤ 16777301 ∧ ∀ x, -16777301 ≤ totC l x ∧ totC l x ≤ 16777301 := by
  rcases hl with rfl | ⟨s, t, rfl, h1, h2, h3, h4⟩
  · exact ⟨ho.sla encK_len (fun x hx => by cases hx), by simp, fun x => by simp [totC]⟩
  · exact ⟨mov_sla ho h2 (fun a ha => (next_wf hok hn h2 (h3 a ha)).2), by rw [mov_len]; omega, mov_bd h4⟩

/-- Two gossips behind moves. -/
structure AlkI (w0 wr : World) (B A1 U1 g1 : Nat) (p1 : GP) (A2 U2 g2 : Nat) (p2 : GP) (ops : List TOp) (n i j : Nat) (mx my : GM) : Prop where
  two : ∃ X1 X2, Two w0 wr B A1 U1 X1 g1 p1 mx A2 U2 X2 g2 p2 my ops 839913626 16777301
  ax : ∃ K, AI ops n i K mx
  ay : ∃ K, AI ops n j K my
section
variable {w0 wr w' : World} {B A1 U1 g1 A2 U2 g2 n i j N : Nat} {X1 X2 : Nat → Prop} {p1 p2 : GP} {mx my m' : GM} {ops : List TOp}
theorem Gos.tight50 {w : World} {A U gb M : Nat} {X : Nat → Prop} {p : GP} {m : GM} (h : Gos w A U X gb p ops m N M) (hA : ∃ K, AI ops n i K m) : Gos w A U X gb p ops m 839913626 M := by
  obtain ⟨K, hK⟩ := hA
  exact (h.tight hK).mono (by have := hK.i50; omega)
theorem Two.tight (h : Two w0 wr B A1 U1 X1 g1 p1 mx A2 U2 X2 g2 p2 my ops N 16777301) (hx : ∃ K, AI ops n i K mx) (hy : ∃ K, AI ops n j K my) : Two w0 wr B A1 U1 X1 g1 p1 mx A2 U2 X2 g2 p2 my ops 839913626 16777301 :=
  ⟨h.gx.tight50 hx, h.gy.tight50 hy, h.apart, h.bel, h.b0, h.b1, h.b2⟩
theorem AI.dlv' {a b : Int} (h : ∃ K, AI ops n i K mx) : ∃ K, AI ops n i K (dlvM ops mx a b) := by obtain ⟨K, h⟩ := h; exact ⟨K, h.dlv a b⟩
theorem AI.do' {k : Int} {l : List TCount} (h : ∃ K, AI ops n i K mx) (hi : i < 50) (hl : ∀ s, -16777301 ≤ totC l s ∧ totC l s ≤ 16777301) (hll : l.length ≤ 16777301) : ∃ K, AI ops n (i + 1) K (doM ops mx k l) := by obtain ⟨K, h⟩ := h; exact ⟨_, h.doing hi hl hll⟩
theorem AI.succ' (h : ∃ K, AI ops n i K mx) (hi : i < 50) : ∃ K, AI ops n (i + 1) K mx := by obtain ⟨K, h⟩ := h; exact ⟨_, h.succ hi⟩
theorem AI.to50 {K : List TStamp} (h : AI ops n i K mx) : AI ops n 50 K mx :=
  ⟨h.hn, h.n8, h.eqv, fun a b ha hb => Nat.le_trans (h.len a b ha hb) h.i50, h.oks, fun s => by have := h.tru s; have := h.i50; omega, h.sup, Nat.le_trans h.kl (Nat.add_le_add_left (Nat.mul_le_mul_right _ h.i50) _), Nat.le_refl _⟩
namespace AlkI
theorem below (h : AlkI w0 wr B A1 U1 g1 p1 A2 U2 g2 p2 ops n i j mx my) (hb : Below wr.heap.size wr w') : AlkI w0 w' B A1 U1 g1 p1 A2 U2 g2 p2 ops n i j mx my := by
  obtain ⟨X1, X2, hT⟩ := h.two
  exact ⟨⟨X1, X2, hT.below hb⟩, h.ax, h.ay⟩
theorem bel (h : AlkI w0 wr B A1 U1 g1 p1 A2 U2 g2 p2 ops n i j mx my) : Below B w0 wr := by
  obtain ⟨X1, X2, hT⟩ := h.two
  exact hT.bel
theorem dX (h : AlkI w0 wr B A1 U1 g1 p1 A2 U2 g2 p2 ops n i j mx my) (a b : Int) : Calls Try.prog 8 #[.pointer (some ⟨g1, 0, none⟩), .int .i64 a, .int .i64 b] wr fun e w' => e = .returned (.int .i64 (dlvE mx a b)) ∧ AlkI w0 w' B A1 U1 g1 p1 A2 U2 g2 p2 ops n i j (dlvM ops mx a b) my := by
  obtain ⟨X1, X2, hT⟩ := h.two
  refine (dlv_any a b hT.gx (by omega) (by omega)).mono ?_
  rintro e w' ⟨he, hc, hG⟩
  obtain ⟨X1', _, hT'⟩ := hT.doX (Nat.le_add_right _ _) (DoP.of_dlv hc hG)
  exact ⟨he, ⟨X1', X2, hT'.tight (AI.dlv' h.ax) h.ay⟩, AI.dlv' h.ax, h.ay⟩
theorem dY (h : AlkI w0 wr B A1 U1 g1 p1 A2 U2 g2 p2 ops n i j mx my) (a b : Int) : Calls Try.prog 8 #[.pointer (some ⟨g2, 0, none⟩), .int .i64 a, .int .i64 b] wr fun e w' => e = .returned (.int .i64 (dlvE my a b)) ∧ AlkI w0 w' B A1 U1 g1 p1 A2 U2 g2 p2 ops n i j mx (dlvM ops my a b) := by
  obtain ⟨X1, X2, hT⟩ := h.two
  refine (dlv_any a b hT.gy (by omega) (by omega)).mono ?_
  rintro e w' ⟨he, hc, hG⟩
  obtain ⟨X2', _, hT'⟩ := hT.doY (Nat.le_add_right _ _) (DoP.of_dlv hc hG)
  exact ⟨he, ⟨X1, X2', hT'.tight h.ax (AI.dlv' h.ay)⟩, h.ax, AI.dlv' h.ay⟩
end AlkI
/-- Do of a list of step, in both. -/
theorem alk_doX (hT : Two w0 wr B A1 U1 X1 g1 p1 mx A2 U2 X2 g2 p2 my ops 839913626 16777301) (hx : ∃ K, AI ops n i K mx) (hy : ∃ K, AI ops n j K my) (hi : i < 50) (hpg : p1.gops = ops) (k : Int) (l : List TCount) (la : Option Addr) (lc : Nat) (hl : SlA wr.heap.size 4 (RCount wr.heap.size) wr la lc l) (hll : l.length ≤ 16777301) (hlt : ∀ s, -16777301 ≤ totC l s ∧ totC l s ≤ 16777301) (hlF : l ≠ [] → ∀ a, la = some a → ¬ Foot A1 U1 X1 a.block) :
    Calls Try.prog 10 #[.pointer (some ⟨g1, 0, none⟩), .int .i64 k, .slice la l.length lc] wr fun e w' => e = .returned (.int .i64 (doE ops mx k l)) ∧ Chg (Foot A1 U1 X1) wr w' ∧ ∃ X1', (∃ K, AI ops n (i + 1) K (doM ops mx k l)) ∧ Two w0 w' B A1 U1 X1' g1 p1 (doM ops mx k l) A2 U2 X2 g2 p2 my ops 839913626 16777301 := by
  refine (do_any k l la lc wr hT.gx hpg hl (by omega) (by omega) hll hlF).mono ?_
  rintro e w' ⟨he, hp⟩
  obtain ⟨X1', _, hT'⟩ := hT.doX (Nat.le_add_right _ _) hp
  exact ⟨he, hp.1, X1', AI.do' hx hi hlt hll, hT'.tight (AI.do' hx hi hlt hll) hy⟩
theorem alk_doY (hT : Two w0 wr B A1 U1 X1 g1 p1 mx A2 U2 X2 g2 p2 my ops 839913626 16777301) (hx : ∃ K, AI ops n i K mx) (hy : ∃ K, AI ops n j K my) (hi : j < 50) (hpg : p2.gops = ops) (k : Int) (l : List TCount) (la : Option Addr) (lc : Nat) (hl : SlA wr.heap.size 4 (RCount wr.heap.size) wr la lc l) (hll : l.length ≤ 16777301) (hlt : ∀ s, -16777301 ≤ totC l s ∧ totC l s ≤ 16777301) (hlF : l ≠ [] → ∀ a, la = some a → ¬ Foot A2 U2 X2 a.block) :
    Calls Try.prog 10 #[.pointer (some ⟨g2, 0, none⟩), .int .i64 k, .slice la l.length lc] wr fun e w' => e = .returned (.int .i64 (doE ops my k l)) ∧ Chg (Foot A2 U2 X2) wr w' ∧ ∃ X2', (∃ K, AI ops n (j + 1) K (doM ops my k l)) ∧ Two w0 w' B A1 U1 X1 g1 p1 mx A2 U2 X2' g2 p2 (doM ops my k l) ops 839913626 16777301 := by
  refine (do_any k l la lc wr hT.gy hpg hl (by omega) (by omega) hll hlF).mono ?_
  rintro e w' ⟨he, hp⟩
  obtain ⟨X2', _, hT'⟩ := hT.doY (Nat.le_add_right _ _) hp
  exact ⟨he, hp.1, X2', AI.do' hy hi hlt hll, hT'.tight hx (AI.do' hy hi hlt hll)⟩
end
/-- How many lists wait, as memory tells. -/
def wayN (w : World) (gb i : Nat) : Nat := match w.cell? ⟨gb, 3 + i, none⟩ with | some (.slice _ n _) => n | _ => 0
theorem Gos.wayN {w : World} {A U gb N M : Nat} {X : Nat → Prop} {p : GP} {ops : List TOp} {m : GM} (h : Gos w A U X gb p ops m N M) {i : Nat} (hi : i < 64) : wayN w gb i = (m.wy i).length := by
  obtain ⟨ao, cap, hc⟩ := h.wcell hi
  unfold Go.Proofs.Ytjmbafcpbagpdaa.wayN
  rw [hc]
theorem dlv_end {ops : List TOp} {m : GM} {a b : Nat} (ha : a < m.n) (hb : b < m.n) (h : m.wy (a * 8 + b) = []) : dlvE m a b = 7 ∧ dlvM ops m a b = m := by
  have h1 : dlvE m a b = 7 := by
    unfold dlvE
    rw [if_neg (by omega)]
    simp only [Int.toNat_natCast]
    rw [if_pos h]
  exact ⟨h1, by unfold dlvM; rw [if_neg (by omega)]⟩
theorem dlv_go {ops : List TOp} {m : GM} {a b : Nat} (ha : a < m.n) (hb : b < m.n) (h : m.wy (a * 8 + b) ≠ []) : dlvE m a b = 0 ∧ (∀ i, (dlvM ops m a b).wy i = if i = a * 8 + b then (m.wy i).tail else m.wy i) := by
  have h1 : dlvE m a b = 0 := by
    unfold dlvE
    rw [if_neg (by omega)]
    simp only [Int.toNat_natCast]
    rw [if_neg h]
  refine ⟨h1, fun i => ?_⟩
  unfold dlvM
  rw [if_pos h1]
  simp only [Int.toNat_natCast]
/-- Nothing waits on the ways ahead of (f, g). -/
def EmpT (n f g : Nat) (mx my : GM) : Prop := ∀ a b, a < n → b < n → (a < f ∨ (a = f ∧ b < g)) → mx.wy (a * 8 + b) = [] ∧ my.wy (a * 8 + b) = []
namespace EmpT
variable {n f g : Nat} {mx my : GM} {ops : List TOp}
theorem x (h : EmpT n f g mx my) (hf : f < mx.n) (hg : g < mx.n) : EmpT n f g (dlvM ops mx f g) my := fun a b ha hb hp => by
  obtain ⟨h1, h2⟩ := h a b ha hb hp
  refine ⟨?_, h2⟩
  by_cases hw : mx.wy (f * 8 + g) = []
  · rw [(dlv_end hf hg hw).2]; exact h1
  · rw [(dlv_go hf hg hw).2, h1]; simp
theorem y (h : EmpT n f g mx my) (hf : f < my.n) (hg : g < my.n) : EmpT n f g mx (dlvM ops my f g) := fun a b ha hb hp => by
  obtain ⟨h1, h2⟩ := h a b ha hb hp
  refine ⟨h1, ?_⟩
  by_cases hw : my.wy (f * 8 + g) = []
  · rw [(dlv_end hf hg hw).2]; exact h2
  · rw [(dlv_go hf hg hw).2, h2]; simp
theorem next (h : EmpT n f g mx my) (h1 : mx.wy (f * 8 + g) = []) (h2 : my.wy (f * 8 + g) = []) : EmpT n f (g + 1) mx my := fun a b ha hb hp => by
  by_cases e : a = f ∧ b = g
  · obtain ⟨rfl, rfl⟩ := e
    exact ⟨h1, h2⟩
  · exact h a b ha hb (by omega)
theorem row (h : EmpT n f n mx my) : EmpT n (f + 1) 0 mx my := fun a b ha hb hp => h a b ha hb (by omega)
theorem none : EmpT n 0 0 mx my := fun a b ha hb hp => by omega
end EmpT
/-- Where all is delivered, the views are alike. -/
theorem AlkI.fin {w0 wr : World} {B A1 U1 g1 A2 U2 g2 n i j : Nat} {p1 p2 : GP} {mx my : GM} {ops : List TOp} (h : AlkI w0 wr B A1 U1 g1 p1 A2 U2 g2 p2 ops n i j mx my) (hc : mx.c 0 = my.c 0) (he : EmpT n n 0 mx my) : ∀ b, b < n → mx.c (b + 1) = my.c (b + 1) := fun b hb => by
  obtain ⟨K1, h1⟩ := h.ax
  obtain ⟨K2, h2⟩ := h.ay
  rw [h1.fin hb (fun a ha => (he a b ha hb (.inl ha)).1), h2.fin hb (fun a ha => (he a b ha hb (.inl ha)).2), hc]
theorem AlkI.nx {w0 wr : World} {B A1 U1 g1 A2 U2 g2 n i j : Nat} {p1 p2 : GP} {mx my : GM} {ops : List TOp} (h : AlkI w0 wr B A1 U1 g1 p1 A2 U2 g2 p2 ops n i j mx my) : mx.n = n ∧ my.n = n ∧ n ≤ 8 := by
  obtain ⟨K1, h1⟩ := h.ax
  obtain ⟨K2, h2⟩ := h.ay
  exact ⟨h1.hn, h2.hn, h1.n8.2⟩
theorem AlkI.way1 {w0 wr : World} {B A1 U1 g1 A2 U2 g2 n i j : Nat} {p1 p2 : GP} {mx my : GM} {ops : List TOp} (h : AlkI w0 wr B A1 U1 g1 p1 A2 U2 g2 p2 ops n i j mx my) {k : Nat} (hk : k < 64) : wayN wr g1 k = (mx.wy k).length := by
  obtain ⟨X1, X2, hT⟩ := h.two
  exact hT.gx.wayN hk
theorem AlkI.way2 {w0 wr : World} {B A1 U1 g1 A2 U2 g2 n i j : Nat} {p1 p2 : GP} {mx my : GM} {ops : List TOp} (h : AlkI w0 wr B A1 U1 g1 p1 A2 U2 g2 p2 ops n i j mx my) {k : Nat} (hk : k < 64) : wayN wr g2 k = (my.wy k).length := by
  obtain ⟨X1, X2, hT⟩ := h.two
  exact hT.gy.wayN hk
end Go.Proofs.Ytjmbafcpbagpdaa
