/- Progress: computations: plain Lean (for ProgressStays). -/
import Derived.Test.YtjmbafcpbagpdaaGreatPj
namespace Go.Proofs.YtjmbafcpbagpdaaGreat
open Go.RowKit Go.Maps
set_option linter.unusedVariables false
set_option linter.unusedSimpArgs false

/-- How often a pointstamp is in a list. -/
def cntA (A : List TStamp) (s : TStamp) : Int := (A.map fun a => if a = s then (1 : Int) else 0).sum
theorem cntA_cons (a : TStamp) (A : List TStamp) (s : TStamp) : cntA (a :: A) s = (if a = s then 1 else 0) + cntA A s := by
  unfold cntA
  simp
theorem cntA_range (s : TStamp) : ∀ A : List TStamp, 0 ≤ cntA A s ∧ cntA A s ≤ A.length
  | [] => by simp [cntA]
  | a :: A => by
    have := cntA_range s A
    rw [cntA_cons, List.length_cons]
    split <;> omega
theorem cntA_pos {s : TStamp} : ∀ {A : List TStamp}, 0 < cntA A s ↔ s ∈ A
  | [] => by simp [cntA]
  | a :: A => by
    have h1 := cntA_range s A
    have h2 := cntA_pos (s := s) (A := A)
    rw [cntA_cons, List.mem_cons]
    by_cases h : a = s
    · rw [if_pos h]
      exact ⟨fun _ => .inl h.symm, fun _ => by omega⟩
    · rw [if_neg h, Int.zero_add, h2]
      exact ⟨fun k => .inr k, fun k => k.resolve_left (fun e => h e.symm)⟩
/-- The tracker's counts are those of a list. -/
def Told (cs : List (TStamp × Int)) (A : List TStamp) : Prop := ∀ s, cntC cs s = cntA A s
theorem Told.nil : Told [] [] := fun s => rfl
theorem Told.upd {ops : List TOp} {cs : List (TStamp × Int)} {A A' : List TStamp} {l : List TCount} (h : Told cs A) (hl : ∀ s, cntA A s + totC l s = cntA A' s) (hn : A'.length ≤ 1000) (hok : l.all (okC ops) = true) : updE ops cs l = 0 := by
  unfold updE
  rw [if_neg (by rw [hok]; simp), if_pos]
  intro p hp
  unfold passC
  rw [nxL_val hp, wrap_add', h p.1, hl p.1]
  have := cntA_range p.1 A'
  rw [show wrap64 (cntA A' p.1) = cntA A' p.1 by unfold wrap64; omega]
  omega
theorem Told.next {cs cs' : List (TStamp × Int)} {A A' : List TStamp} {l : List TCount} (h : Told cs A) (hl : ∀ s, cntA A s + totC l s = cntA A' s) (hn : A'.length ≤ 1000) (hc : ∀ s, cntC cs' s = wrap64 (cntC cs s + totC l s)) : Told cs' A' := fun s => by
  rw [hc s, h s, hl s]
  have := cntA_range s A'
  unfold wrap64
  omega
theorem Told.alive {cs : List (TStamp × Int)} {A : List TStamp} (h : Told cs A) (hn : (cs.map Prod.fst).Nodup) (s : TStamp) : s ∈ aliveC cs ↔ s ∈ A := by
  rw [alive_mem hn, h s, cntA_pos]
theorem totC_cons (c : TCount) (l : List TCount) (s : TStamp) : totC (c :: l) s = (if c.fS = s then c.fN else 0) + totC l s := by
  unfold totC
  simp
end Go.Proofs.YtjmbafcpbagpdaaGreat
