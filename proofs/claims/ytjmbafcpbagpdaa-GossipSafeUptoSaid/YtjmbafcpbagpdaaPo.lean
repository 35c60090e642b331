/- Progress: small things for ProgressStays: slices of a slice, fronts that were, the alive pointstamps. -/
import Derived.Test.YtjmbafcpbagpdaaPm
import Derived.Test.YtjmbafcpbagpdaaTyMove
import Derived.Test.YtjmbafcpbagpdaaL11
import Derived.Deep.CutBlock
namespace Go.Proofs.Ytjmbafcpbagpdaa
open Go.RowKit Go.Maps
set_option linter.unusedVariables false
set_option linter.unusedSimpArgs false

theorem own_empty' {W : World} {base b : Nat} (h : Blk W b #[] 47) (hb : base ≤ b) : OwnL encS W base 47 3 (.slice (some ⟨b, 0, none⟩) 0 0) [] :=
  OwnL.of_blk (enc := encS) (size := 3) (xs := []) (cap := 0) h hb (Nat.le_refl 0) (by unfold maxLen; omega) rfl rfl rfl

theorem mod_ok (q : Int) (n : Nat) (hn : 0 < n) (hn2 : n ≤ 1000) : ∃ k : Nat, k < n ∧ wrap64 ((IntKind.u64.wrap q).tmod (n : Int)) = (k : Int) := by
  have h0 : 0 ≤ IntKind.u64.wrap q := by
    show 0 ≤ q % 18446744073709551616
    omega
  generalize IntKind.u64.wrap q = u at h0
  have h1 : u.tmod n = u % n := Int.tmod_eq_emod_of_nonneg h0
  rw [h1]
  have h2 : 0 ≤ u % (n : Int) ∧ u % (n : Int) < n := ⟨Int.emod_nonneg _ (by omega), Int.emod_lt_of_pos _ (by omega)⟩
  generalize u % (n : Int) = t at h2
  rw [IntWalk.wrap64_in t (by omega)]
  exact ⟨t.toNat, by omega, by omega⟩
theorem next_wf {ops : List TOp} (hok : (gcheck ops).2 = 0) (hn : ops.length ≤ 1000) {s x : TStamp} (hs : wfS s) (hx : x ∈ nextS ops s.fLoc s.fT.fEpoch s.fT.fRound) : goodS ops x.fLoc x.fT.fEpoch x.fT.fRound = true ∧ wfS x := by
  have h1 := (nextS_law hx).1
  rw [Bool.and_eq_true] at h1
  have hg := h1.2
  refine ⟨hg, ?_⟩
  obtain ⟨k, hk, hkl⟩ := goodS_in hg
  have hr := goodS_small hok (List.getElem?_eq_getElem hkl) (by rw [← hk]; exact hg)
  have he : x.fT.fEpoch = s.fT.fEpoch := by
    unfold nextS at hx
    split at hx
    · rcases List.mem_append.1 hx with h | h
      · unfold furS at h
        split at h
        · obtain rfl := List.mem_singleton.1 h
          rfl
        · cases h
      · obtain ⟨y, _, rfl⟩ := List.mem_map.1 h
        rfl
    · cases hx
  have hr0 : 0 ≤ x.fT.fRound := by
    unfold goodS goodT at hg
    simp only [Bool.and_eq_true, decide_eq_true_eq] at hg
    exact hg.1.2.2
  have wfi : ∀ z : Int, -1000 ≤ z → z ≤ 1000 → (Lit.int .i64 z).wf = true := fun z h1 h2 => by
    have := wrap64_wf z
    rwa [IntWalk.wrap64_in _ (by omega)] at this
  exact ⟨wfi _ (by omega) (by omega), by rw [he]; exact hs.2.1, wfi _ (by omega) (by omega)⟩
/-- The fronts of a list's pointstamps, that were, from base on. -/
structure WasL (w : World) (base : Nat) (v : Value) (ops : List TOp) (A : List TStamp) (ws : List FRow) : Prop where
  own : OwnL encF w base 51 1 v ws
  rows : ∀ r ∈ ws, OwnT w base (.slice r.ao r.f.length r.cap) r.f
  fr : ∀ j (h : j < ws.length), IsFront (timesS ops j A) ws[j].f
namespace WasL
variable {w w' : World} {base : Nat} {v : Value} {ops : List TOp} {A : List TStamp} {ws : List FRow}
theorem below (h : WasL w base v ops A ws) (b : Below w.heap.size w w') : WasL w' base v ops A ws := ⟨h.own.below b (Nat.le_refl _), fun r hr => ⟨(h.rows r hr).1.below b (Nat.le_refl _), (h.rows r hr).2⟩, h.fr⟩
theorem chg (h : WasL w base v ops A ws) {mb : Nat} (hm : mb < base) (hc : Chg (fun k => k = mb) w w') : WasL w' base v ops A ws :=
  ⟨h.own.chg hc (fun g e1 e2 => by have := (h.own.lt g e1).1; omega), fun r hr => ⟨(h.rows r hr).1.chg hc (fun g e1 e2 => by have := ((h.rows r hr).1.lt g e1).1; omega), (h.rows r hr).2⟩, h.fr⟩
theorem snoc (h : WasL w base v ops A ws) {r : FRow} {v' : Value} (hr : OwnT w base (.slice r.ao r.f.length r.cap) r.f) (hf : IsFront (timesS ops ws.length A) r.f) (hc : Chg (fun k => v.ownBlock = some k) w w') (ho : OwnL encF w' base 51 1 v' (ws ++ [r])) : WasL w' base v' ops A (ws ++ [r]) := by
  have key : ∀ q : FRow, OwnT w base (.slice q.ao q.f.length q.cap) q.f → OwnT w' base (.slice q.ao q.f.length q.cap) q.f := fun q hq => ⟨hq.1.chg hc (fun g e1 e2 => by
    rcases hq.1.form with ⟨h4, _⟩ | ⟨g', cap2, cells, h4, h5, _⟩
    · rw [h4] at e1; cases e1
    · rw [h4] at e1
      obtain rfl : g' = g := by simpa [Value.ownBlock] using e1
      exact h.own.ne_blk h5 (by decide) e2), hq.2⟩
  refine ⟨ho, fun q hq => ?_, fun j hj => ?_⟩
  · rcases List.mem_append.1 hq with h1 | h1
    · exact key q (h.rows q h1)
    · obtain rfl := List.mem_singleton.1 h1
      exact key _ hr
  · rw [List.length_append, List.length_singleton] at hj
    by_cases hjl : j < ws.length
    · rw [List.getElem_append_left hjl]
      exact h.fr j hjl
    · obtain rfl : j = ws.length := by omega
      simpa using hf
end WasL
theorem own_apart {α β : Type} {enc1 : α → List Value} {enc2 : β → List Value} {w : World} {base1 base2 s1 s2 : Nat} {e1 e2 : TypeId} {v1 v2 : Value} {xs : List α} {ys : List β} (h1 : OwnL enc1 w base1 e1 s1 v1 xs) (h2 : OwnL enc2 w base2 e2 s2 v2 ys) (hne : e1 ≠ e2) : ∀ g, v1.ownBlock = some g → ¬ v2.ownBlock = some g := fun g e1 e2 => by
  rcases h2.form with ⟨h4, _⟩ | ⟨g', cap2, cells, h4, h5, _⟩
  · rw [h4] at e2; cases e2
  · rw [h4] at e2
    obtain rfl : g' = g := by simpa [Value.ownBlock] using e2
    exact h1.ne_blk h5 hne e1
/-- What a computation's step tells. -/
def movC (s : TStamp) (B : List TStamp) : List TCount := ⟨s, -1⟩ :: B.map fun a => (⟨a, 1⟩ : TCount)
theorem mov_len (s : TStamp) (B : List TStamp) : (movC s B).length = B.length + 1 := by simp [movC]
theorem mov_snoc (s : TStamp) (B : List TStamp) (a : TStamp) : movC s (B ++ [a]) = movC s B ++ [⟨a, 1⟩] := by simp [movC]
theorem mov_tot {A : List TStamp} {k : Nat} (hk : k < A.length) (B : List TStamp) (t : TStamp) : cntA A t + totC (movC A[k] B) t = cntA (A.take k ++ A.drop (k + 1) ++ B) t := by
  have h1 : cntA A t = cntA (A.take k) t + ((if A[k] = t then 1 else 0) + cntA (A.drop (k + 1)) t) := by
    rw [← cntA_cons, ← cntA_append, List.getElem_cons_drop, List.take_append_drop]
  unfold movC
  rw [totC_cons, tot_ones, cntA_append, cntA_append, h1]
  dsimp only
  split <;> omega
theorem mov_ok {ops : List TOp} {s : TStamp} {B : List TStamp} (hs : goodS ops s.fLoc s.fT.fEpoch s.fT.fRound = true) (hB : ∀ a ∈ B, goodS ops a.fLoc a.fT.fEpoch a.fT.fRound = true) : (movC s B).all (okC ops) = true := by
  rw [List.all_eq_true]
  intro c hc
  unfold movC at hc
  rcases List.mem_cons.1 hc with rfl | h
  · simp [okC, hs]
  · obtain ⟨a, ha, rfl⟩ := List.mem_map.1 h
    simp [okC, hB a ha]
theorem mov_sla {w : World} {base : Nat} {v : Value} {s : TStamp} {B : List TStamp} (h : OwnL encK w base 57 4 v (movC s B)) (hs : wfS s) (hB : ∀ a ∈ B, wfS a) : ∃ ao cap, v = .slice ao (movC s B).length cap ∧ SlA w.heap.size 4 (RCount w.heap.size) w ao cap (movC s B) :=
  h.sla encK_len (fun x hx => by
    unfold movC at hx
    rcases List.mem_cons.1 hx with rfl | hx
    · exact ⟨rfl, hs.1, hs.2.1, hs.2.2, rfl⟩
    · obtain ⟨a, ha, rfl⟩ := List.mem_map.1 hx
      exact ⟨rfl, (hB a ha).1, (hB a ha).2.1, (hB a ha).2.2, rfl⟩)
end Go.Proofs.Ytjmbafcpbagpdaa
