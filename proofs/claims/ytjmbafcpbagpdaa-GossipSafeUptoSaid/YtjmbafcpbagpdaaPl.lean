/- Progress: computations: plain Lean (for ProgressStays). -/
import Derived.Test.YtjmbafcpbagpdaaPj
namespace Go.Proofs.Ytjmbafcpbagpdaa
open Go.RowKit Go.Maps
set_option linter.unusedVariables false
set_option linter.unusedSimpArgs false

/-- How often a pointstamp is in a list. -/
def cntA (A : List TStamp) (s : TStamp) : Int := (A.map fun a => if a = s then (1 : Int) else 0).sum
theorem cntA_append (A B : List TStamp) (s : TStamp) : cntA (A ++ B) s = cntA A s + cntA B s := by
  unfold cntA
  rw [List.map_append, List.sum_append]
theorem cntA_cons (a : TStamp) (A : List TStamp) (s : TStamp) : cntA (a :: A) s = (if a = s then 1 else 0) + cntA A s := by
  unfold cntA
  simp
theorem cntA_range (s : TStamp) : ∀ A : List TStamp, 0 ≤ cntA A s ∧ cntA A s ≤ A.length
  | [] => by simp [cntA]
  | a :: A => by
    have := cntA_range s A
    rw [cntA_cons, List.length_cons]
    split <;> omega
theorem cntA_pos {s : TStamp} : ∀ {A : List TStamp}, 0 < cntA A s ↔ s ∈ A
  | [] => by simp [cntA]
  | a :: A => by
    have h1 := cntA_range s A
    have h2 := cntA_pos (s := s) (A := A)
    rw [cntA_cons, List.mem_cons]
    by_cases h : a = s
    · rw [if_pos h]
      exact ⟨fun _ => .inl h.symm, fun _ => by omega⟩
    · rw [if_neg h, Int.zero_add, h2]
      exact ⟨fun k => .inr k, fun k => k.resolve_left (fun e => h e.symm)⟩
/-- The tracker's counts are those of a list. -/
def Told (cs : List (TStamp × Int)) (A : List TStamp) : Prop := ∀ s, cntC cs s = cntA A s
theorem Told.nil : Told [] [] := fun s => rfl
theorem Told.upd {ops : List TOp} {cs : List (TStamp × Int)} {A A' : List TStamp} {l : List TCount} (h : Told cs A) (hl : ∀ s, cntA A s + totC l s = cntA A' s) (hn : A'.length ≤ 1000) (hok : l.all (okC ops) = true) : updE ops cs l = 0 := by
  unfold updE
  rw [if_neg (by rw [hok]; simp), if_pos]
  intro p hp
  unfold passC
  rw [nxL_val hp, wrap_add', h p.1, hl p.1]
  have := cntA_range p.1 A'
  rw [show wrap64 (cntA A' p.1) = cntA A' p.1 by unfold wrap64; omega]
  omega
theorem Told.next {cs cs' : List (TStamp × Int)} {A A' : List TStamp} {l : List TCount} (h : Told cs A) (hl : ∀ s, cntA A s + totC l s = cntA A' s) (hn : A'.length ≤ 1000) (hc : ∀ s, cntC cs' s = wrap64 (cntC cs s + totC l s)) : Told cs' A' := fun s => by
  rw [hc s, h s, hl s]
  have := cntA_range s A'
  unfold wrap64
  omega
theorem Told.alive {cs : List (TStamp × Int)} {A : List TStamp} (h : Told cs A) (hn : (cs.map Prod.fst).Nodup) (s : TStamp) : s ∈ aliveC cs ↔ s ∈ A := by
  rw [alive_mem hn, h s, cntA_pos]
theorem tot_ones (B : List TStamp) (s : TStamp) : totC (B.map fun a => (⟨a, 1⟩ : TCount)) s = cntA B s := by
  unfold totC cntA
  rw [List.map_map]
  rfl
theorem totC_cons (c : TCount) (l : List TCount) (s : TStamp) : totC (c :: l) s = (if c.fS = s then c.fN else 0) + totC l s := by
  unfold totC
  simp
/-- A time of a pointstamp at an operator is a right pointstamp there. -/
theorem times_goodS {ops : List TOp} {loc : Int} {A : List TStamp} {t : TTime} (h : t ∈ timesS ops loc A) (hg : goodT t = true) : (decide ((gcheck ops).2 = 0) && goodS ops loc t.fEpoch t.fRound) = true := by
  unfold timesS at h
  split at h
  · rename_i hc
    unfold timesF at h
    obtain ⟨s, _, h2⟩ := List.mem_flatMap.1 h
    rw [Bool.and_eq_true, decide_eq_true_eq]
    refine ⟨hc.1, ?_⟩
    unfold timeOf at h2
    split at h2
    · rename_i hgs
      split at h2
      · rename_i hl
        obtain rfl := List.mem_singleton.1 h2
        rw [← hl]
        exact hgs
      · split at h2
        · obtain rfl := List.mem_singleton.1 h2
          unfold goodS
          simp only [Bool.and_eq_true, decide_eq_true_eq]
          exact ⟨⟨hc.2, hg⟩, by simp⟩
        · cases h2
    · cases h2
  · cases h
/-- A front never goes back. -/
theorem front_on {ops : List TOp} {loc : Int} {A A' : List TStamp} {f f' : List TTime} (hf : IsFront (timesS ops loc A) f) (hf' : IsFront (timesS ops loc A') f') {s : TStamp} (hs : s ∈ A) (hA : ∀ a ∈ A', a ∈ A ∨ a ∈ nextS ops s.fLoc s.fT.fEpoch s.fT.fRound) : ∀ x ∈ f', coversT f x = true := fun x hx => by
  obtain ⟨hm, hgt, _⟩ := (hf'.mem x).1 hx
  have hg := times_goodS hm hgt
  have hc : coversT (timesS ops loc A') ⟨x.fEpoch, x.fRound⟩ = true := by
    unfold coversT
    rw [List.any_eq_true]
    exact ⟨x, hm, by rw [hgt, Bool.true_and]; exact (leT_iff _ _).2 ⟨Int.le_refl _, Int.le_refl _⟩⟩
  rw [← could_covers hg, List.any_eq_true] at hc
  obtain ⟨a, ha, hca⟩ := hc
  have : ∃ b ∈ A, couldS ops b.fLoc b.fT.fEpoch b.fT.fRound loc x.fEpoch x.fRound = true := by
    rcases hA a ha with h1 | h1
    · exact ⟨a, h1, hca⟩
    · exact ⟨s, hs, couldS_trans (nextS_law h1).2.1 hca⟩
  obtain ⟨b, hb, hcb⟩ := this
  rw [hf.covers x]
  have h2 : (A.any fun s => couldS ops s.fLoc s.fT.fEpoch s.fT.fRound loc x.fEpoch x.fRound) = true := List.any_eq_true.2 ⟨b, hb, hcb⟩
  rw [could_covers hg] at h2
  exact h2
theorem front_end {ops : List TOp} {loc : Int} {f : List TTime} (hf : IsFront (timesS ops loc []) f) : f = [] := by
  refine List.eq_nil_iff_forall_not_mem.2 (fun x hx => ?_)
  have hm := ((hf.mem x).1 hx).1
  unfold timesS timesF at hm
  split at hm <;> simp at hm
end Go.Proofs.Ytjmbafcpbagpdaa
