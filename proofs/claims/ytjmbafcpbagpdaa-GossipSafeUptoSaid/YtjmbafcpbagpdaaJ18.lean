/- Gossip: GossipSafe's invariant: plain Lean. -/
import Derived.Test.YtjmbafcpbagpdaaJ14
import Derived.Test.YtjmbafcpbagpdaaJ10
import Derived.Test.YtjmbafcpbagpdaaPr
namespace Go.Proofs.Ytjmbafcpbagpdaa
open Go.RowKit Go.Shelf Go.Maps
set_option linter.unusedVariables false
set_option linter.unusedSimpArgs false

theorem mov_self {ops : List TOp} {s : TStamp} {t : List TStamp} (ht : ∀ a ∈ t, a ∈ nextS ops s.fLoc s.fT.fEpoch s.fT.fRound) : totC (movC s t) s = -1 := by
  unfold movC
  rw [totC_cons, tot_ones, if_pos rfl]
  have h0 : ¬ 0 < cntA t s := fun h => by
    have h1 := nextS_law (ht s (cntA_pos.1 h))
    have h2 := h1.2.1
    rw [h1.2.2] at h2
    cases h2
  have h1 := cntA_range s t
  dsimp only
  omega
theorem mov_neg {s : TStamp} {t : List TStamp} {x : TStamp} (h : totC (movC s t) x < 0) : x = s := by
  unfold movC at h
  rw [totC_cons, tot_ones] at h
  have h1 := cntA_range x t
  by_cases e : s = x
  · exact e.symm
  · rw [if_neg (by exact e)] at h; omega
theorem mov_pos {s : TStamp} {t : List TStamp} {x : TStamp} (h : 0 < totC (movC s t) x) : x ∈ t := by
  unfold movC at h
  rw [totC_cons, tot_ones] at h
  refine cntA_pos.1 ?_
  split at h
  · dsimp only at h; omega
  · omega
theorem mov_stand {ops : List TOp} {s : TStamp} {t : List TStamp} (ht : ∀ a ∈ t, a ∈ nextS ops s.fLoc s.fT.fEpoch s.fT.fRound) : StandL ops (movC s t) := fun x hx =>
  ⟨s, by rw [mov_self ht]; omega, (nextS_law (ht x (mov_pos hx))).2.1⟩
theorem nx_mem {l : List TCount} {s : TStamp} (h : wrap64 (totC l s) ≠ 0) : ∃ p ∈ nxL l, p.1 = s := by
  have h1 := nxL_cnt l s l.length (Nat.le_refl _)
  rw [List.take_length] at h1
  rw [← h1] at h
  unfold cntC getC at h
  cases hf : (nxL l).find? (fun p => decide (p.1 = s)) with
  | none => simp [hf] at h
  | some p =>
    have h2 := List.mem_of_find?_eq_some hf
    have h3 := List.find?_some hf
    exact ⟨p, h2, by simpa using h3⟩
/-- A gossip behind i moves of a computation. -/
structure SI (ops : List TOp) (n i : Nat) (K : List TStamp) (m : GM) : Prop where
  ai : AI ops n i K m
  pos : ∀ s, 0 ≤ m.c 0 s
  stl : ∀ a b, a < n → b < n → ∀ l ∈ m.wy (a * 8 + b), StandL ops l
namespace SI
variable {ops : List TOp} {n i : Nat} {K K' : List TStamp} {m m' : GM}
theorem doOK (h : SI ops n i K m) (hok : (gcheck ops).2 = 0) (hn : ops.length ≤ 1000) {k : Nat} (hk : k < n) {s : TStamp} {t : List TStamp} (hs : 0 < m.c 0 s) (hgs : goodS ops s.fLoc s.fT.fEpoch s.fT.fRound = true) (hws : wfS s) (ht : ∀ a ∈ t, a ∈ nextS ops s.fLoc s.fT.fEpoch s.fT.fRound) (htl : t.length ≤ 16777300) : doE ops m k (movC s t) = 0 := by
  have hall : (movC s t).all (okC ops) = true := mov_ok hgs (fun a ha => (next_wf hok hn hws (ht a ha)).1)
  have hb := mov_bd (s := s) htl
  have hu := (upd_easy (c := m.c 0) hall hb (fun s => by have := h.ai.truB s; omega)).1
  have hst : standsF ops (m.c 0) (movC s t) = true := by
    unfold standsF
    rw [List.all_eq_true]
    intro p hp
    have hv := nxL_val hp
    have hbp := hb p.1
    rw [IntWalk.wrap64_in _ (by omega)] at hv
    obtain ⟨q, hq, hqs⟩ := nx_mem (l := movC s t) (s := s) (by rw [mov_self ht, IntWalk.wrap64_in _ (by omega)]; omega)
    have hqv := nxL_val hq
    rw [hqs, mov_self ht] at hqv
    have hqv' : q.2 = -1 := by rw [hqv]; exact IntWalk.wrap64_in _ (by omega)
    unfold standB
    rw [Bool.and_eq_true, Bool.not_eq_true', Bool.and_eq_false_iff, Bool.or_eq_true]
    refine ⟨?_, ?_⟩
    · by_cases hneg : p.2 < 0
      · right
        have hps : p.1 = s := mov_neg (by rw [← hv]; exact hneg)
        rw [hv, hps, mov_self ht]
        have : wrap64 (- -1) = 1 := IntWalk.wrap64_in _ (by omega)
        rw [this]
        exact decide_eq_false (by omega)
      · left
        simpa using hneg
    · by_cases hp0 : p.2 ≤ 0
      · left
        simpa using hp0
      · right
        rw [List.any_eq_true]
        refine ⟨q, hq, ?_⟩
        rw [Bool.and_eq_true]
        refine ⟨by simp [hqv'], ?_⟩
        rw [hqs]
        exact (nextS_law (ht p.1 (mov_pos (s := s) (by rw [← hv]; omega)))).2.1
  unfold doE
  rw [h.ai.hn, if_neg (by omega), if_neg (by simp [hall]), if_neg (by simp [hst]), if_neg, if_neg (by simp [hu])]
  rintro ⟨j, hj, h2⟩
  have h3 := h.ai.len k j hk hj
  have h4 := h.ai.i50
  simp only [Int.toNat_natCast] at h2
  omega
theorem doing (h : SI ops n i K m) (hi : i < 50) {k : Nat} (hk : k < n) {s : TStamp} {t : List TStamp} (hs : 0 < m.c 0 s) (ht : ∀ a ∈ t, a ∈ nextS ops s.fLoc s.fT.fEpoch s.fT.fRound) (htl : t.length ≤ 16777300) : SI ops n (i + 1) (K ++ (movC s t).map (·.fS)) (doM ops m k (movC s t)) ∧ ∀ x, doE ops m k (movC s t) = 0 → (doM ops m k (movC s t)).c 0 x = m.c 0 x + totC (movC s t) x := by
  have hb := mov_bd (s := s) htl
  have hA := h.ai.doing hi (k := (k : Int)) hb (by rw [mov_len]; omega)
  have hadd : ∀ x, addF (m.c 0) (movC s t) x = m.c 0 x + totC (movC s t) x := fun x => by
    have h1 := hb x
    have h2 := h.ai.truB x
    unfold addF
    exact IntWalk.wrap64_in _ (by omega)
  have hc : ∀ x, doE ops m k (movC s t) = 0 → (doM ops m k (movC s t)).c 0 x = m.c 0 x + totC (movC s t) x := fun x hE => by
    unfold doM
    rw [if_pos hE]
    unfold GM.told
    simp only [if_pos]
    exact hadd x
  refine ⟨⟨hA, fun x => ?_, fun a b ha hb l hl => ?_⟩, hc⟩
  · by_cases hE : doE ops m k (movC s t) = 0
    · rw [hc x hE]
      by_cases hneg : totC (movC s t) x < 0
      · have := mov_neg hneg
        subst this
        rw [mov_self ht]
        omega
      · have := h.pos x
        omega
    · unfold doM
      rw [if_neg hE]
      exact h.pos x
  · by_cases hE : doE ops m k (movC s t) = 0
    · unfold doM at hl
      rw [if_pos hE] at hl
      unfold GM.told at hl
      dsimp only at hl
      split at hl
      · rcases List.mem_append.1 hl with h1 | h1
        · exact h.stl a b ha hb l h1
        · obtain rfl := List.mem_singleton.1 h1
          exact mov_stand ht
      · exact h.stl a b ha hb l hl
    · unfold doM at hl
      rw [if_neg hE] at hl
      exact h.stl a b ha hb l hl
theorem dlv (h : SI ops n i K m) (a b : Int) : SI ops n i K (dlvM ops m a b) := by
  refine ⟨h.ai.dlv a b, fun s => by rw [AI.dlvM_c0]; exact h.pos s, fun a' b' ha hb l hl => ?_⟩
  unfold dlvM at hl
  split at hl
  · dsimp only at hl
    split at hl
    · exact h.stl a' b' ha hb l (List.mem_of_mem_tail hl)
    · exact h.stl a' b' ha hb l hl
  · exact h.stl a' b' ha hb l hl
theorem succ (h : SI ops n i K m) (hi : i < 50) : SI ops n (i + 1) K m := ⟨h.ai.succ hi, h.pos, h.stl⟩
/-- What a worker takes for done is done in truth. -/
theorem safe (h : SI ops n i K m) (hok : (gcheck ops).2 = 0) (hg : ∀ j, j ≤ n → ∀ a, m.c j a ≠ 0 → goodS ops a.fLoc a.fT.fEpoch a.fT.fRound = true) {b : Nat} (hb : b < n) {s : TStamp} (hd : doneF ops (m.c (b + 1)) s = true) : doneF ops (m.c 0) s = true := by
  rw [doneF_iff hok (hg (b + 1) (by omega))] at hd
  rw [doneF_iff hok (hg 0 (by omega))]
  refine ⟨hd.1, safe_core (V := m.c (b + 1)) (Ls := toB m b) h.pos (h.ai.eqv b hb) (fun l hl => ?_) hd.2⟩
  obtain ⟨a, ha, hl⟩ := List.mem_flatMap.1 hl
  have h1 := List.mem_range.1 ha
  rw [h.ai.hn] at h1
  exact h.stl a b h1 hb l hl
theorem start {k : Int} {bl : List TCount} (h : newGE ops k bl = 0) (hl : bl.length ≤ 1048576) : SI ops k.toNat 0 (bl.map (·.fS)) (newGM k.toNat bl) := by
  have hA := AI.start h hl
  refine ⟨hA, fun s => ?_, fun a b _ _ l hl => (by cases hl)⟩
  have hpos : ∀ c ∈ bl, 0 ≤ c.fN := fun c hc => by
    by_cases hn : c.fN < 0
    · exfalso
      unfold newGE at h
      by_cases h1 : (gcheck ops).2 ≠ 0
      · rw [if_pos h1] at h; omega
      rw [if_neg h1] at h
      by_cases h2 : ¬ (1 ≤ k ∧ k ≤ 8)
      · rw [if_pos h2] at h; omega
      rw [if_neg h2, if_pos ⟨c, hc, hn⟩] at h
      omega
    · omega
  have ht : 0 ≤ totC bl s := by
    clear hA h hl
    induction bl with
    | nil => simp [totC]
    | cons c r ih =>
      rw [totC_cons]
      have h1 := hpos c (by simp)
      have h2 := ih (fun d hd => hpos d (by simp [hd]))
      split <;> omega
  have h1 := hA.truB s
  have h2 : (newGM k.toNat bl).c 0 s = wrap64 (totC bl s) := by
    show addF (fun _ => 0) bl s = _
    unfold addF
    rw [Int.zero_add]
  have h3 : totC bl s ≤ 2251799813685248 := by
    have hok : bl.all (okC ops) = true := by
      unfold newGE at h
      by_cases h1 : (gcheck ops).2 ≠ 0
      · rw [if_pos h1] at h; omega
      rw [if_neg h1] at h
      by_cases h2 : ¬ (1 ≤ k ∧ k ≤ 8)
      · rw [if_pos h2] at h; omega
      rw [if_neg h2] at h
      by_cases h3 : ∃ c ∈ bl, c.fN < 0
      · rw [if_pos h3] at h; omega
      rw [if_neg h3] at h
      by_cases h4 : updF ops (fun _ => 0) bl ≠ 0
      · rw [if_pos h4] at h; omega
      exact updF_ok (Classical.not_not.1 h4)
    have := tot_range s hok
    omega
  rw [h2, IntWalk.wrap64_in _ (by omega)]
  exact ht
end SI
/-- What is done stays done. -/
theorem done_stays {ops : List TOp} {T T' : CF} {s : TStamp} {t : List TStamp} (hok : (gcheck ops).2 = 0) (hg : ∀ a, T a ≠ 0 → goodS ops a.fLoc a.fT.fEpoch a.fT.fRound = true) (hg' : ∀ a, T' a ≠ 0 → goodS ops a.fLoc a.fT.fEpoch a.fT.fRound = true) (hs : 0 < T s) (ht : ∀ a ∈ t, a ∈ nextS ops s.fLoc s.fT.fEpoch s.fT.fRound) (hT : ∀ x, T' x = T x + totC (movC s t) x) {x : TStamp} (hd : doneF ops T x = true) : doneF ops T' x = true := by
  rw [doneF_iff hok hg] at hd
  rw [doneF_iff hok hg']
  refine ⟨hd.1, fun a ha => stays_core (T := T) (mov_stand ht) (fun y hy => ?_) hd.2 a (by rw [← hT a]; exact ha)⟩
  rw [mov_neg hy]
  exact hs
/-- All counts stand at good pointstamps. -/
theorem Gos.goodc {w : World} {A U gb N M : Nat} {X : Nat → Prop} {p : GP} {ops : List TOp} {m : GM} (h : Gos w A U X gb p ops m N M) : ∀ j, j ≤ m.n → ∀ a, m.c j a ≠ 0 → goodS ops a.fLoc a.fT.fEpoch a.fT.fRound = true := fun j hj a ha => by
  obtain ⟨⟨cs, h1, h2, h3⟩, _⟩ := h.trs j hj
  rw [← h2] at ha
  have hk := (key_iff h1.nodup h1.nz a).2 ha
  obtain ⟨q, hq, rfl⟩ := List.mem_map.1 hk
  exact h1.good q hq
end Go.Proofs.Ytjmbafcpbagpdaa

/- Gossip: a row of pointstamps that may lie behind the start of its block. -/
namespace Go.Proofs.Ytjmbafcpbagpdaa
open Go.RowKit Go.Shelf Go.Maps
set_option linter.unusedVariables false
set_option linter.unusedSimpArgs false

/-- The slice v holds the pointstamps xs; it may lie behind the start of its block. -/
def OffS (w : World) (base : Nat) (v : Value) (xs : List TStamp) : Prop :=
  (v = .slice none 0 0 ∧ xs = []) ∨ ∃ g k cap cells, v = .slice (some ⟨g, k, none⟩) xs.length cap ∧ Blk w g cells 47 ∧ xs.length ≤ cap ∧ cap ≤ maxLen ∧ k + cap * 3 ≤ cells.size ∧ base ≤ g ∧ ∀ j u, (xs.flatMap encS)[j]? = some u → cells[k + j]? = some u
theorem encS_flat (xs : List TStamp) : (xs.flatMap encS).length = xs.length * 3 := by
  induction xs with
  | nil => rfl
  | cons a r ih => rw [List.flatMap_cons, List.length_append, ih, encS_len, List.length_cons]; omega
namespace OffS
variable {w w' : World} {base : Nat} {v : Value} {xs : List TStamp}
theorem nil (w : World) (base : Nat) : OffS w base (.slice none 0 0) [] := .inl ⟨rfl, rfl⟩
theorem chg {S : Nat → Prop} (h : OffS w base v xs) (hc : Chg S w w') (hS : ∀ g, v.ownBlock = some g → ¬ S g) : OffS w' base v xs := by
  rcases h with h | ⟨g, k, cap, cells, rfl, h2, h3, h4, h5, h6, h7⟩
  · exact .inl h
  · exact .inr ⟨g, k, cap, cells, rfl, h2.chg hc (hS g rfl), h3, h4, h5, h6, h7⟩
theorem lt (h : OffS w base v xs) : ∀ g, v.ownBlock = some g → base ≤ g ∧ g < w.heap.size := by
  rintro g hg
  rcases h with ⟨rfl, _⟩ | ⟨g', k, cap, cells, rfl, h2, h3, h4, h5, h6, h7⟩
  · simp [Value.ownBlock] at hg
  · simp [Value.ownBlock] at hg
    subst hg
    exact ⟨h6, h2.lt⟩
theorem slice (h : OffS w base v xs) : ∃ ao cap, v = .slice ao xs.length cap ∧ xs.length ≤ cap ∧ cap ≤ maxLen := by
  rcases h with ⟨rfl, rfl⟩ | ⟨g', k, cap, cells, rfl, h2, h3, h4, h5, h6, h7⟩
  · exact ⟨none, 0, rfl, Nat.le_refl _, Nat.zero_le _⟩
  · exact ⟨_, cap, rfl, h3, h4⟩
theorem flat_at : ∀ {xs : List TStamp} {i : Nat} (hi : i < xs.length) (r : Nat), r < 3 → (xs.flatMap encS)[i * 3 + r]? = (encS xs[i])[r]?
  | x :: xs, 0, _, r, hr => by
    rw [List.flatMap_cons, Nat.zero_mul, Nat.zero_add, List.getElem?_append_left (by rw [encS_len]; exact hr)]
    rfl
  | x :: xs, i + 1, hi, r, hr => by
    rw [List.flatMap_cons, List.getElem?_append_right (by rw [encS_len]; omega), encS_len, show (i + 1) * 3 + r - 3 = i * 3 + r by omega, flat_at (xs := xs) (by simpa using hi) r hr]
    rfl
/-- An element is there. -/
theorem at' (h : OffS w base v xs) {i : Nat} (hi : i < xs.length) : ∃ g k cap, v = .slice (some ⟨g, k, none⟩) xs.length cap ∧ xs.length ≤ cap ∧ cap ≤ maxLen ∧ w.cell? ⟨g, k + i * 3, none⟩ = some (.int .i64 xs[i].fLoc) ∧ w.cell? ⟨g, k + i * 3 + 1, none⟩ = some (.int .i64 xs[i].fT.fEpoch) ∧ w.cell? ⟨g, k + i * 3 + 2, none⟩ = some (.int .i64 xs[i].fT.fRound) := by
  rcases h with ⟨rfl, rfl⟩ | ⟨g, k, cap, cells, rfl, h2, h3, h4, h5, h6, h7⟩
  · simp at hi
  · refine ⟨g, k, cap, rfl, h3, h4, ?_, ?_, ?_⟩
    · have := h7 (i * 3 + 0) _ (by rw [flat_at hi 0 (by omega)]; rfl)
      exact h2.cellAt this
    · have := h7 (i * 3 + 1) _ (by rw [flat_at hi 1 (by omega)]; rfl)
      exact h2.cellAt (by rw [Nat.add_assoc]; exact this)
    · have := h7 (i * 3 + 2) _ (by rw [flat_at hi 2 (by omega)]; rfl)
      exact h2.cellAt (by rw [Nat.add_assoc]; exact this)
/-- What lies behind the first d. -/
theorem drop {a : Option Addr} {n cap : Nat} (h : OffS w base (.slice a n cap) xs) (d : Nat) (hd : d < n) : ∃ g k, a = some ⟨g, k, none⟩ ∧ n = xs.length ∧ n ≤ cap ∧ OffS w base (.slice (some ⟨g, k + d * 3, none⟩) (n - d) (cap - d)) (xs.drop d) := by
  rcases h with ⟨h1, rfl⟩ | ⟨g, k, cap', cells, h1, h2, h3, h4, h5, h6, h7⟩
  · cases h1; omega
  · cases h1
    refine ⟨g, k, rfl, rfl, h3, .inr ⟨g, k + d * 3, cap - d, cells, by rw [List.length_drop], h2, by rw [List.length_drop]; omega, by omega, by omega, h6, fun j u hj => ?_⟩⟩
    rw [show k + d * 3 + j = k + (d * 3 + j) by omega]
    refine h7 _ _ ?_
    have hs : xs.flatMap encS = (xs.take d).flatMap encS ++ (xs.drop d).flatMap encS := by rw [← List.flatMap_append, List.take_append_drop]
    rw [hs, List.getElem?_append_right (by rw [encS_flat, List.length_take]; omega), encS_flat, List.length_take, Nat.min_eq_left (by omega), show d * 3 + j - d * 3 = j by omega]
    exact hj
end OffS
section
variable (w : World)
theorem run_append_offS (base : Nat) (t ty : TypeId) (i : TypeInfo) (z : Value) (ht : Try.prog.underlying t = some (.slice 47)) (hi : Try.prog.info? 47 = some i) (hz : i.zero = some z)
    (hsize : i.size = 3) (hby : i.bytes = 24) (hzs : z.cells.size = 3) {v : Value} {xs : List TStamp} (h : OffS w base v xs) (a : Addr) (c : Nat) (y : TStamp) (hu : ∀ j u, (encS y)[j]? = some u → w.cell? (a.add j) = some u)
    (h63 : xs.length + 1 ≤ maxLen) (hbytes : (xs.length + 1) * 24 ≤ 140737488355328) (hbase : base ≤ w.heap.size) :
    ∃ g k cap w', (Builtin.append_ #[t, t] ty #[v, .slice (some a) 1 c]).run Try.prog w = .ok (.slice (some ⟨g, k, none⟩) (xs.length + 1) cap) w' ∧ OffS w' base (.slice (some ⟨g, k, none⟩) (xs.length + 1) cap) (xs ++ [y]) ∧ w.grownBy w' v.ownBlock ∧ (v.ownBlock = some g ∨ g = w.heap.size) := by
  have hsmall : xs.length + 1 ≤ 9223372036854775807 := by simp only [maxLen] at h63; omega
  have hfl : (xs ++ [y]).flatMap encS = xs.flatMap encS ++ encS y := by rw [List.flatMap_append]; simp
  have hlf := encS_flat xs
  have hnew : ∀ (olds : List Value) (old : Nat), olds = xs.flatMap encS →
      OffS (w.drew.alloc (.cells (olds.toArray ++ (encS y).toArray ++ Builtin.zeroCells z.cells (grownCap w (xs.length + 1) old 47 - (xs.length + 1))) 47)) base (.slice (some ⟨w.heap.size, 0, none⟩) (xs.length + 1) (grownCap w (xs.length + 1) old 47)) (xs ++ [y]) ∧
      (∀ row, w.grownBy (w.drew.alloc (.cells (olds.toArray ++ (encS y).toArray ++ Builtin.zeroCells z.cells (grownCap w (xs.length + 1) old 47 - (xs.length + 1))) 47)) row) := by
    rintro olds old rfl
    have hge := grownCap_ge w (xs.length + 1) old 47
    have hcm := grownCap_le_maxLen w (xs.length + 1) old 47 h63
    refine ⟨.inr ⟨w.heap.size, 0, _, _, by rw [List.length_append]; rfl, Blk.new w.drew _ 47, by rw [List.length_append]; exact hge, hcm, ?_, hbase, fun j x hx => ?_⟩, fun row => ⟨rfl, rfl, rfl, by simp, fun k hk _ => Below.heap_alloc w.drew _ k hk⟩⟩
    · simp only [Array.size_append, List.size_toArray, size_zeroCells, hzs, encS_len, hlf]
      omega
    · rw [Nat.zero_add]
      rw [hfl] at hx
      have hj : j < (xs.flatMap encS ++ encS y).length := (List.getElem?_eq_some_iff.1 hx).1
      rw [Array.getElem?_append_left (by simpa using hj)]
      simpa using hx
  rcases h with ⟨rfl, rfl⟩ | ⟨g, k, cap, cells, rfl, h2, h3, h4, h5, h6, h7⟩
  · have hr := run_append_nil (P := Try.prog) w t ty 47 i z ht hi hz a 1 c (encS y) (by rw [hsize]; rfl) hu (by omega) (by omega) (by rw [hby]; simp)
    obtain ⟨n1, n2⟩ := hnew [] 0 rfl
    simp only [List.length_nil, Nat.zero_add, List.nil_append, Array.empty_append] at n1 n2 ⊢
    exact ⟨w.heap.size, 0, _, _, hr, n1, n2 _, .inr rfl⟩
  · by_cases hroom : xs.length + 1 ≤ cap
    · have hr := run_append_room_at (P := Try.prog) w t ty 47 i ht hi g k xs.length cap cells h2 a 1 c (encS y) (by rw [hsize]; rfl) hu (encS_one y) hroom (by rw [hsize]; simp [encS_len]; omega)
      rw [hsize] at hr
      refine ⟨g, k, cap, _, hr, .inr ⟨g, k, cap, _, by rw [List.length_append]; rfl, setRow_heap w g cells _ 47 _ h2, by rw [List.length_append]; exact hroom, h4, ?_, h6, fun j x hx => ?_⟩, ⟨rfl, rfl, rfl, by simp, fun b _ hb => setRow_other w g b _ (fun e => hb (by simp [Value.ownBlock, e]))⟩, .inl rfl⟩
      · simp [encS_len]
        omega
      · rw [hfl] at hx
        have hj : j < (xs.flatMap encS ++ encS y).length := (List.getElem?_eq_some_iff.1 hx).1
        rw [List.length_append, hlf, encS_len] at hj
        simp only [List.getElem?_toArray]
        by_cases hju : j < xs.length * 3
        · rw [List.getElem?_append_left (by simp [encS_len]; omega), List.getElem?_append_left (by simp; omega), List.getElem?_take, if_pos (by omega)]
          rw [List.getElem?_append_left (by omega)] at hx
          have := h7 j x hx
          simpa using this
        · have hk : k + xs.length * 3 ≤ cells.toList.length := by simp; omega
          rw [List.getElem?_append_right (by omega), hlf] at hx
          rw [List.getElem?_append_left (by simp [encS_len]; omega), List.getElem?_append_right (by rw [List.length_take, Nat.min_eq_left hk]; omega), List.length_take, Nat.min_eq_left hk, show k + j - (k + xs.length * 3) = j - xs.length * 3 by omega]
          exact hx
    · have holds : ∀ j x, (xs.flatMap encS)[j]? = some x → w.cell? ((⟨g, k, none⟩ : Addr).add j) = some x := fun j x hx => by rw [add_at]; exact h2.cellAt (h7 j x hx)
      have hr := run_append_grow (P := Try.prog) w t ty 47 i z ht hi hz ⟨g, k, none⟩ xs.length cap (xs.flatMap encS) (by rw [hsize, hlf]) holds a 1 c (encS y) (by rw [hsize]; rfl) hu (by omega) (by omega) (growslice_fits (by omega) (by rw [hby]; exact hbytes))
      obtain ⟨n1, n2⟩ := hnew (xs.flatMap encS) cap rfl
      exact ⟨w.heap.size, 0, _, _, hr, n1, n2 _, .inr rfl⟩
theorem wpList_appS {W : World} {ops : Array Oper} {rest : List Oper} {o : Oper} {a : Act} {Q : Exit → Act → World → Prop} (hgd : o.guard = none) (s x : Operand) (t : TypeId)
    (ho : o.op = .call { callee := .builtin .append, args := #[s, x], argTypes := #[t, t] })
    {base : Nat} {i : TypeInfo} {z : Value} (ht : Try.prog.underlying t = some (.slice 47)) (hi : Try.prog.info? 47 = some i) (hz : i.zero = some z)
    (hsize : i.size = 3) (hby : i.bytes = 24) (hzs : z.cells.size = 3) (y : TStamp) {v : Value} {xs : List TStamp} {T : TypeId} (hs : a.eval s = v) (hv : OffS W base v xs) (hx : a.eval x = .slice (some ⟨W.heap.size, 0, none⟩) 1 1)
    (h63 : xs.length + 1 ≤ maxLen) (hbytes : (xs.length + 1) * 24 ≤ 140737488355328) (hbase : base ≤ W.heap.size)
    (h : ∀ g k cap w', OffS w' base (.slice (some ⟨g, k, none⟩) (xs.length + 1) cap) (xs ++ [y]) → W.grownBy w' v.ownBlock → (v.ownBlock = some g ∨ W.heap.size ≤ g) → wpList Try.prog ops Q rest (a.put o.dst (.slice (some ⟨g, k, none⟩) (xs.length + 1) cap)) w') :
    wpList Try.prog ops Q (o :: rest) a (W.alloc (.cells (encS y).toArray T)) := by
  have hw : Region.wanted o (yielded ops a.tmps) = true := by simp [Region.wanted, hgd]
  unfold wpList
  rw [if_pos hw]
  left
  obtain ⟨g, k, cap, w', hr, h2, h3, h4⟩ := run_append_offS (W.alloc (.cells (encS y).toArray T)) base t o.type i z ht hi hz hsize hby hzs (hv.chg ((Chg.refl (fun _ => False) W).alloc _) (fun _ _ h => h)) ⟨W.heap.size, 0, none⟩ 1 y (fun j u hj => by
    have hb := Blk.new W (encS y).toArray T
    rw [add_at, hb.cell]
    simpa using hj) h63 hbytes (by simp; omega)
  unfold Oper.wp execOp
  simp only [ho, resolve, invoke, builtin, Sem.run_bind, Sem.run_pure, Result.andThen_ok, List.map_toArray, List.map_cons, List.map_nil, hs, hx, hr]
  refine h g k cap w' h2 ((World.grownBy_alloc W _ v.ownBlock).trans h3) ?_
  rcases h4 with h4 | h4
  · exact .inl h4
  · exact .inr (by rw [h4]; simp)
end
end Go.Proofs.Ytjmbafcpbagpdaa

/- Gossip: a gossip and what was seen done, in memory: for GossipSafe. -/
namespace Go.Proofs.Ytjmbafcpbagpdaa
open Go.RowKit Go.Shelf Go.Maps
set_option linter.unusedVariables false
set_option linter.unusedSimpArgs false

structure SaI (w0 wr : World) (B A U g1 : Nat) (p1 : GP) (ops : List TOp) (n i : Nat) (m : GM) (v : Value) (D : List TStamp) : Prop where
  gx : ∃ X, Gos wr A U X g1 p1 ops m 839913626 16777301 ∧ ∀ g, v.ownBlock = some g → ¬ Foot A U X g
  si : ∃ K, SI ops n i K m
  row : OffS wr w0.heap.size v D
  bel : Below B w0 wr
  b0 : B ≤ w0.heap.size
  b1 : B ≤ A
  dn : ∀ s ∈ D, doneF ops (m.c 0) s = true
/-- A tracker of the truth's counts, away from the row v. -/
def TTr (wr : World) (tb : Nat) (ops : List TOp) (c : CF) (v : Value) : Prop :=
  ∃ base U x cs, Tr wr base tb x ops cs ∧ cntC cs = c ∧ cs.length ≤ 839913626 ∧ (tb < U ∧ x.mb < U ∧ U ≤ wr.heap.size) ∧ ∀ g, v.ownBlock = some g → ¬ (base ≤ g ∧ g < U)
namespace TTr
variable {wr w' : World} {tb : Nat} {ops : List TOp} {c : CF} {v v' : Value}
theorem below (h : TTr wr tb ops c v) (hb : Below wr.heap.size wr w') : TTr w' tb ops c v := by
  obtain ⟨base, U, x, cs, h1, h2, h3, h4, h5⟩ := h
  exact ⟨base, U, x, cs, h1.below hb, h2, h3, ⟨h4.1, h4.2.1, Nat.le_trans h4.2.2 hb.size⟩, h5⟩
theorem app (h : TTr wr tb ops c v) (hg : wr.grownBy w' v.ownBlock) (hp : ∀ g, v'.ownBlock = some g → v.ownBlock = some g ∨ wr.heap.size ≤ g) : TTr w' tb ops c v' := by
  obtain ⟨base, U, x, cs, h1, h2, h3, h4, h5⟩ := h
  have hc : Chg (fun k => v.ownBlock = some k) wr w' := Chg.of_grown hg
  refine ⟨base, U, x, cs, h1.chgR hc (fun k hk => h5 k hk) h4.1 h4.2.1, h2, h3, ⟨h4.1, h4.2.1, Nat.le_trans h4.2.2 hc.size⟩, fun g e hgU => ?_⟩
  rcases hp g e with h6 | h6
  · exact h5 g h6 hgU
  · omega
theorem done (h : TTr wr tb ops c v) (s : TStamp) : Calls Try.prog 12 #[.pointer (some ⟨tb, 0, none⟩), mkS s] wr fun e w' => e = .returned (.bool (doneF ops c s)) ∧ Below wr.heap.size wr w' := by
  obtain ⟨base, U, x, cs, h1, h2, h3, h4, h5⟩ := h
  have := tdone_any s wr h1 (by omega)
  rw [done_cs h1.nodup, h2] at this
  exact this
end TTr
namespace SaI
variable {w0 wr w' : World} {B A U g1 n i : Nat} {p1 : GP} {m : GM} {ops : List TOp} {v v' : Value} {D : List TStamp}
theorem below (h : SaI w0 wr B A U g1 p1 ops n i m v D) (hb : Below wr.heap.size wr w') : SaI w0 w' B A U g1 p1 ops n i m v D := by
  obtain ⟨X, h1, h2⟩ := h.gx
  exact ⟨⟨X, h1.below hb, h2⟩, h.si, h.row.chg (Chg.of_below hb) (fun g e hk => by have := (h.row.lt g e).2; omega), h.bel.trans (hb.mono (by have := h.bel.size; have := h.b0; omega)), h.b0, h.b1, h.dn⟩
theorem ai (h : SaI w0 wr B A U g1 p1 ops n i m v D) : ∃ K, AI ops n i K m := by obtain ⟨K, hK⟩ := h.si; exact ⟨K, hK.ai⟩
theorem good (h : SaI w0 wr B A U g1 p1 ops n i m v D) : ∀ j, j ≤ n → ∀ a, m.c j a ≠ 0 → goodS ops a.fLoc a.fT.fEpoch a.fT.fRound = true := by
  obtain ⟨X, h1, h2⟩ := h.gx
  obtain ⟨K, hK⟩ := h.ai
  have := h1.goodc
  rwa [hK.hn] at this
theorem dlv (h : SaI w0 wr B A U g1 p1 ops n i m v D) (a b : Int) : Calls Try.prog 8 #[.pointer (some ⟨g1, 0, none⟩), .int .i64 a, .int .i64 b] wr fun e w' => e = .returned (.int .i64 (dlvE m a b)) ∧ SaI w0 w' B A U g1 p1 ops n i (dlvM ops m a b) v D := by
  obtain ⟨X, h1, h2⟩ := h.gx
  obtain ⟨K, hK⟩ := h.si
  refine (dlv_any a b h1 (by omega) (by omega)).mono ?_
  rintro e w' ⟨he, hc, hG⟩
  have hK' := hK.dlv a b
  refine ⟨he, ⟨X, hG.tight50 ⟨K, hK'.ai⟩, h2⟩, ⟨K, hK'⟩, h.row.chg hc h2, h.bel.trans (hc.below (by have := h.bel.size; have := h.b0; omega) (fun k hk e => by have := h1.foot_ge e; have := h.b1; omega)), h.b0, h.b1, fun s hs => ?_⟩
  rw [AI.dlvM_c0]
  exact h.dn s hs
theorem app (h : SaI w0 wr B A U g1 p1 ops n i m v D) (hg : wr.grownBy w' v.ownBlock) (hp : ∀ g, v'.ownBlock = some g → v.ownBlock = some g ∨ wr.heap.size ≤ g) {s : TStamp} (hr : OffS w' w0.heap.size v' (D ++ [s])) (hd : doneF ops (m.c 0) s = true) : SaI w0 w' B A U g1 p1 ops n i m v' (D ++ [s]) := by
  obtain ⟨X, h1, h2⟩ := h.gx
  have hc : Chg (fun k => v.ownBlock = some k) wr w' := Chg.of_grown hg
  refine ⟨⟨X, h1.chg hc h2, fun g e hf => ?_⟩, h.si, hr, h.bel.trans (hc.below (by have := h.bel.size; have := h.b0; omega) (fun k hk e => by have := (h.row.lt k e).1; have := h.b0; omega)), h.b0, h.b1, fun x hx => ?_⟩
  · rcases hp g e with h3 | h3
    · exact h2 g h3 hf
    · have := h1.foot_lt hf; omega
  · rcases List.mem_append.1 hx with h3 | h3
    · exact h.dn x h3
    · obtain rfl := List.mem_singleton.1 h3
      exact hd
theorem drop {a : Option Addr} {k cap : Nat} (h : SaI w0 wr B A U g1 p1 ops n i m (.slice a k cap) D) (d : Nat) (hd : d < k) : ∃ g o, a = some ⟨g, o, none⟩ ∧ k = D.length ∧ k ≤ cap ∧ SaI w0 wr B A U g1 p1 ops n i m (.slice (some ⟨g, o + d * 3, none⟩) (k - d) (cap - d)) (D.drop d) := by
  obtain ⟨g, o, rfl, h2, h3, h4⟩ := h.row.drop d hd
  exact ⟨g, o, rfl, h2, h3, h.gx, h.si, h4, h.bel, h.b0, h.b1, fun s hs => h.dn s (List.mem_of_mem_drop hs)⟩
theorem succ (h : SaI w0 wr B A U g1 p1 ops n i m v D) (hi : i < 50) : SaI w0 wr B A U g1 p1 ops n (i + 1) m v D := by
  obtain ⟨K, hK⟩ := h.si
  exact ⟨h.gx, ⟨K, hK.succ hi⟩, h.row, h.bel, h.b0, h.b1, h.dn⟩
theorem truth (h : SaI w0 wr B A U g1 p1 ops n i m v D) (hpg : p1.gops = ops) (hzi : ∀ o ∈ ops, o.fIn.length * 8 ≤ 140737488355328) : Calls Try.prog 11 #[.pointer (some ⟨g1, 0, none⟩)] wr fun e w' => ∃ tb, e = .returned (.pointer (some ⟨tb, 0, none⟩)) ∧ SaI w0 w' B A U g1 p1 ops n i m v D ∧ TTr w' tb ops (m.c 0) v ∧ Below wr.heap.size wr w' := by
  obtain ⟨X, h1, h2⟩ := h.gx
  obtain ⟨K, hK⟩ := h.si
  refine (true_any wr h1 hpg hzi (by omega)).mono ?_
  rintro e w' ⟨hb, tb, x, cs, rfl, hT, hc, hl⟩
  refine ⟨tb, rfl, h.below hb, ⟨wr.heap.size, w'.heap.size, x, cs, hT, ?_, hl, ⟨hT.blk.lt, hT.map.lt, Nat.le_refl _⟩, fun g e hg => ?_⟩, hb⟩
  · rw [hc]
    funext s
    have := hK.pos s
    unfold posF
    split
    · rfl
    · omega
  · have := (h.row.lt g e).2
    omega
/-- Do of what step made. -/
theorem doing {X : Nat → Prop} (h : SaI w0 wr B A U g1 p1 ops n i m v D) (hG : Gos wr A U X g1 p1 ops m 839913626 16777301) (hv : ∀ g, v.ownBlock = some g → ¬ Foot A U X g) (hi : i < 50) (hpg : p1.gops = ops) (hok : (gcheck ops).2 = 0) (hn : ops.length ≤ 1000) {k : Nat} (hk : k < n) {s : TStamp} {t : List TStamp} (hs : 0 < m.c 0 s) (hws : wfS s) (ht : ∀ a ∈ t, a ∈ nextS ops s.fLoc s.fT.fEpoch s.fT.fRound) (htl : t.length ≤ 16777300) (la : Option Addr) (lc : Nat) (hl : SlA wr.heap.size 4 (RCount wr.heap.size) wr la lc (movC s t)) (hlF : movC s t ≠ [] → ∀ a, la = some a → ¬ Foot A U X a.block) :
    Calls Try.prog 10 #[.pointer (some ⟨g1, 0, none⟩), .int .i64 (k : Int), .slice la (movC s t).length lc] wr fun e w' => e = .returned (.int .i64 0) ∧ ∃ m', SaI w0 w' B A U g1 p1 ops n (i + 1) m' v D := by
  obtain ⟨K, hK⟩ := h.si
  have hE := hK.doOK hok hn hk hs (h.good 0 (by omega) s (by omega)) hws ht htl
  obtain ⟨hS, hadd⟩ := hK.doing hi hk hs ht htl
  refine (do_any (k : Int) (movC s t) la lc wr hG hpg hl (by rw [mov_len]; omega) (by rw [mov_len]; omega) (by rw [mov_len]; omega) hlF).mono ?_
  rintro e w' ⟨he, hc, X', hX, hG'⟩
  rw [hE] at he
  have hG2 := hG'.tight50 ⟨_, hS.ai⟩
  refine ⟨he, doM ops m k (movC s t), ⟨X', hG2, fun g e hf => ?_⟩, ⟨_, hS⟩, h.row.chg hc hv, h.bel.trans (hc.below (by have := h.bel.size; have := h.b0; omega) (fun k hk e => by have := hG.foot_ge e; have := h.b1; omega)), h.b0, h.b1, fun x hx => ?_⟩
  · rcases hf with hf | hf
    · exact hv g e (.inl hf)
    · rcases hX g hf with hf | hf
      · exact hv g e (.inr hf)
      · have := (h.row.lt g e).2; omega
  · have hg' := hG2.goodc
    exact done_stays hok (h.good 0 (by omega)) (hg' 0 (by omega)) hs ht (fun y => hadd y hE) (h.dn x hx)
/-- What a worker takes for done. -/
theorem wdone (h : SaI w0 wr B A U g1 p1 ops n i m v D) (hok : (gcheck ops).2 = 0) {b : Nat} (hb : b < n) (s : TStamp) : ∃ d, (d = true → doneF ops (m.c 0) s = true) ∧ Calls Try.prog 13 #[.pointer (some ⟨g1, 0, none⟩), .int .i64 (b : Int), mkS s] wr fun e w' => e = .returned (.bool d) ∧ SaI w0 w' B A U g1 p1 ops n i m v D ∧ Below wr.heap.size wr w' := by
  obtain ⟨X, h1, h2⟩ := h.gx
  obtain ⟨K, hK⟩ := h.si
  refine ⟨doneF ops (m.c (b + 1)) s, fun hd => hK.safe hok h.good hb hd, ?_⟩
  refine (gdone_any (b : Int) s h1 (by omega)).mono ?_
  rintro e w' ⟨he, hb'⟩
  refine ⟨?_, h.below hb', hb'⟩
  rw [he, hK.ai.hn, decide_eq_true (show 0 ≤ (b : Int) ∧ (b : Int) < (n : Int) by omega), Int.toNat_natCast, Bool.true_and]
theorem wait (h : SaI w0 wr B A U g1 p1 ops n i m v D) {a b : Nat} (ha : a < n) (hb : b < n) : Calls Try.prog 14 #[.pointer (some ⟨g1, 0, none⟩), .int .i64 (a : Int), .int .i64 (b : Int)] wr fun e w' => e = .returned (.int .i64 ((m.wy (a * 8 + b)).length : Nat)) ∧ w' = wr := by
  obtain ⟨X, h1, h2⟩ := h.gx
  obtain ⟨K, hK⟩ := h.ai
  refine (wait_any (a : Int) (b : Int) h1).mono ?_
  rintro e w' ⟨he, hw⟩
  refine ⟨?_, hw⟩
  rw [he]
  unfold waitN
  rw [hK.hn, if_pos (by omega)]
  simp only [Int.toNat_natCast]
theorem front (h : SaI w0 wr B A U g1 p1 ops n i m v D) {b : Nat} (hb : b < n) (loc : Int) : Calls Try.prog 16 #[.pointer (some ⟨g1, 0, none⟩), .int .i64 (b : Int), .int .i64 loc] wr fun e w' => Below wr.heap.size wr w' ∧ SaI w0 w' B A U g1 p1 ops n i m v D ∧ ∃ cs u f, e = .returned u ∧ cntC cs = m.c (b + 1) ∧ (cs.map Prod.fst).Nodup ∧ OwnT w' wr.heap.size u f ∧ IsFront (timesS ops loc (aliveC cs)) f := by
  obtain ⟨X, h1, h2⟩ := h.gx
  obtain ⟨K, hK⟩ := h.ai
  refine (gfront_any (b : Int) loc h1 (by omega)).mono ?_
  rintro e w' ⟨hb', hg, _⟩
  have := hg ⟨by omega, by rw [hK.hn]; omega⟩
  rw [Int.toNat_natCast] at this
  exact ⟨hb', h.below hb', this⟩
theorem fin (h : SaI w0 wr B A U g1 p1 ops n i m v D) {b : Nat} (hb : b < n) (hw : ∀ a, a < n → m.wy (a * 8 + b) = []) : m.c (b + 1) = m.c 0 := by
  obtain ⟨K, hK⟩ := h.ai
  exact hK.fin hb hw
theorem mn (h : SaI w0 wr B A U g1 p1 ops n i m v D) : m.n = n ∧ n ≤ 8 := by
  obtain ⟨K, hK⟩ := h.ai
  exact ⟨hK.hn, hK.n8.2⟩
theorem way (h : SaI w0 wr B A U g1 p1 ops n i m v D) {k : Nat} (hk : k < 64) : wayN wr g1 k = (m.wy k).length := by
  obtain ⟨X, h1, h2⟩ := h.gx
  exact h1.wayN hk
end SaI
theorem TTr.front {wr : World} {tb : Nat} {ops : List TOp} {c : CF} {v : Value} (h : TTr wr tb ops c v) (loc : Int) : Calls Try.prog 17 #[.pointer (some ⟨tb, 0, none⟩), .int .i64 loc] wr fun e w' => Below wr.heap.size wr w' ∧ ∃ cs u f, e = .returned u ∧ cntC cs = c ∧ (cs.map Prod.fst).Nodup ∧ OwnT w' wr.heap.size u f ∧ IsFront (timesS ops loc (aliveC cs)) f := by
  obtain ⟨base, U, x, cs, h1, h2, h3, h4, h5⟩ := h
  refine (tfront_any loc wr h1 (by omega)).mono ?_
  rintro e w' ⟨u, f, he, ho, hf, hb⟩
  exact ⟨hb, cs, u, f, he, h2, h1.nodup, ho, hf⟩
/-- Nothing waits on the ways ahead of (f, g). -/
def EmpS (n f g : Nat) (m : GM) : Prop := ∀ a b, a < n → b < n → (a < f ∨ (a = f ∧ b < g)) → m.wy (a * 8 + b) = []
namespace EmpS
variable {n f g : Nat} {m : GM} {ops : List TOp}
theorem x (h : EmpS n f g m) (hf : f < m.n) (hg : g < m.n) : EmpS n f g (dlvM ops m f g) := fun a b ha hb hp => by
  have h1 := h a b ha hb hp
  by_cases hw : m.wy (f * 8 + g) = []
  · rw [(dlv_end hf hg hw).2]; exact h1
  · rw [(dlv_go hf hg hw).2, h1]; simp
theorem next (h : EmpS n f g m) (h1 : m.wy (f * 8 + g) = []) : EmpS n f (g + 1) m := fun a b ha hb hp => by
  by_cases e : a = f ∧ b = g
  · obtain ⟨rfl, rfl⟩ := e
    exact h1
  · exact h a b ha hb (by omega)
theorem row (h : EmpS n f n m) : EmpS n (f + 1) 0 m := fun a b ha hb hp => h a b ha hb (by omega)
theorem none : EmpS n 0 0 m := fun a b ha hb hp => by omega
end EmpS
end Go.Proofs.Ytjmbafcpbagpdaa
