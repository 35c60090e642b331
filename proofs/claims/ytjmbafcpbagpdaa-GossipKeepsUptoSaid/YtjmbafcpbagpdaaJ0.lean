/- Gossip: the plain model. -/
import Derived.Test.YtjmbafcpbagpdaaPf
namespace Go.Proofs.Ytjmbafcpbagpdaa
open Go.RowKit Go.Shelf Go.Maps
set_option linter.unusedVariables false
set_option linter.unusedSimpArgs false

abbrev CF := TStamp → Int
def passF (c : CF) (p : TStamp × Int) : Prop := wrap64 (c p.1 + p.2) ≤ 4611686018427387904 ∧ -4611686018427387904 ≤ wrap64 (c p.1 + p.2)
instance (c : CF) (p : TStamp × Int) : Decidable (passF c p) := by unfold passF; infer_instance
/-- What Update answers, out of the counts as a function. -/
def updF (ops : List TOp) (c : CF) (l : List TCount) : Int :=
  if l.all (okC ops) = false then 1 else if ∀ p ∈ nxL l, passF c p then 0 else 14
theorem updF_cs (ops : List TOp) (cs : List (TStamp × Int)) (l : List TCount) : updE ops cs l = updF ops (cntC cs) l := by
  unfold updE updF passC passF
  rfl
def addF (c : CF) (l : List TCount) : CF := fun s => wrap64 (c s + totC l s)
def nextF (ops : List TOp) (c : CF) (l : List TCount) : CF := if updF ops c l = 0 then addF c l else c
theorem updF_ok {ops : List TOp} {c : CF} {l : List TCount} (h : updF ops c l = 0) : l.all (okC ops) = true := by
  unfold updF at h
  by_cases h1 : l.all (okC ops) = false
  · rw [if_pos h1] at h; simp at h
  · simpa using h1
noncomputable def cld (ops : List TOp) (a b : TStamp) : Bool := couldS ops a.fLoc a.fT.fEpoch a.fT.fRound b.fLoc b.fT.fEpoch b.fT.fRound
noncomputable def standB (ops : List TOp) (c : CF) (es : List (TStamp × Int)) (p : TStamp × Int) : Bool :=
  !(decide (p.2 < 0) && decide (c p.1 < wrap64 (-p.2))) && (decide (p.2 ≤ 0) || es.any fun q => decide (q.2 < 0) && cld ops q.1 p.1)
/-- Does a list stand? -/
noncomputable def standsF (ops : List TOp) (c : CF) (l : List TCount) : Bool := (nxL l).all (standB ops c (nxL l))

/-- A gossip: how many workers; the counts of the truth (0) and of the views; what is on its way. -/
structure GM where
  n : Nat
  c : Nat → CF
  wy : Nat → List (List TCount)
noncomputable def doE (ops : List TOp) (m : GM) (k : Int) (l : List TCount) : Int :=
  if ¬ (0 ≤ k ∧ k < m.n) then 1 else if l.all (okC ops) = false then 1 else if standsF ops (m.c 0) l = false then 9
  else if ∃ j, j < m.n ∧ 4096 ≤ (m.wy (k.toNat * 8 + j)).length then 2 else if updF ops (m.c 0) l ≠ 0 then 1 else 0
def GM.told (m : GM) (k : Nat) (l : List TCount) : GM :=
  ⟨m.n, fun i => if i = 0 then addF (m.c 0) l else m.c i, fun i => if k * 8 ≤ i ∧ i < k * 8 + m.n then m.wy i ++ [l] else m.wy i⟩
noncomputable def doM (ops : List TOp) (m : GM) (k : Int) (l : List TCount) : GM := if doE ops m k l = 0 then m.told k.toNat l else m
def dlvE (m : GM) (a b : Int) : Int := if ¬ ((0 ≤ a ∧ a < m.n) ∧ (0 ≤ b ∧ b < m.n)) then 1 else if m.wy (a.toNat * 8 + b.toNat) = [] then 7 else 0
def dlvM (ops : List TOp) (m : GM) (a b : Int) : GM :=
  if dlvE m a b = 0 then ⟨m.n, fun i => if i = b.toNat + 1 then nextF ops (m.c i) ((m.wy (a.toNat * 8 + b.toNat)).headD []) else m.c i, fun i => if i = a.toNat * 8 + b.toNat then (m.wy i).tail else m.wy i⟩ else m
def waitN (m : GM) (a b : Int) : Nat := if (0 ≤ a ∧ a < m.n) ∧ (0 ≤ b ∧ b < m.n) then (m.wy (a.toNat * 8 + b.toNat)).length else 0

end Go.Proofs.Ytjmbafcpbagpdaa
