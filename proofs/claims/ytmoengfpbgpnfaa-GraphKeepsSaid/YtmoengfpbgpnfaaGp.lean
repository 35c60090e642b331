/- Graph: what the document says of an operator and of a graph: plain Lean. -/
import Derived.Test.YtmoengfpbgpnfaaTyGraph
namespace Go.Proofs.Ytmoengfpbgpnfaa

def zeroB (x : TOp) : Bool := decide (x.fNum = 0 ∧ x.fRounds = 0 ∧ x.fTest = 0 ∧ x.fLim = 0)
def formB (x : TOp) : Bool :=
  if x.fKind = 1 then decide (-1 ≤ x.fArg ∧ x.fArg ≤ 7 ∧ x.fNum = 0 ∧ x.fRounds = 0 ∧ x.fTest = 0 ∧ x.fLim = 0)
  else if x.fKind = 2 then decide (0 ≤ x.fArg ∧ x.fArg ≤ 5 ∧ x.fRounds = 0 ∧ x.fTest = 0 ∧ x.fLim = 0)
  else if x.fKind = 3 then decide (0 ≤ x.fArg ∧ x.fArg ≤ 3 ∧ x.fRounds = 0 ∧ x.fTest = 0 ∧ x.fLim = 0)
  else if x.fKind = 4 ∨ x.fKind = 5 then decide (0 ≤ x.fArg ∧ x.fArg ≤ 6 ∧ x.fNum = 0 ∧ x.fRounds = 0 ∧ x.fTest = 0 ∧ x.fLim = 0)
  else if x.fKind = 6 ∨ x.fKind = 8 then decide (x.fArg = 0 ∧ x.fNum = 0 ∧ x.fRounds = 0 ∧ x.fTest = 0 ∧ x.fLim = 0)
  else if x.fKind = 7 then decide (0 ≤ x.fArg ∧ x.fArg ≤ 5 ∧ 1 ≤ x.fRounds ∧ x.fRounds ≤ 16 ∧ 0 ≤ x.fTest ∧ x.fTest ≤ 3)
  else false
def wantN (k : Int) : Nat := if k = 1 then 0 else if k = 5 ∨ k = 6 then 2 else 1
def insB (x : TOp) (i : Nat) : Bool := x.fIn.all fun k => decide (0 ≤ k ∧ k < i)
def okB (x : TOp) (i n : Nat) : Bool := formB x && decide (x.fIn.length = wantN x.fKind) && decide ((i + 1 = n) ↔ (x.fKind = 8)) && insB x i
/-- From place i on: the first operator that isn't right. -/
def badFrom (n : Nat) : List TOp → Nat → Option Nat
  | [], _ => none
  | x :: r, i => if okB x i n then badFrom n r (i + 1) else some i
def gcheck (ops : List TOp) : Nat × Nat :=
  if ops.length < 1 ∨ 16 < ops.length then (0, 2)
  else match badFrom ops.length ops 0 with
    | some i => (i, 13)
    | none => (0, 0)

theorem badFrom_hit {n : Nat} {ops : List TOp} {m : Nat} (hm : m < ops.length) (hb : okB ops[m] m n = false) (ha : ∀ k (h : k < ops.length), k < m → okB ops[k] k n = true) : badFrom n ops 0 = some m := by
  suffices ∀ (l : List TOp) (i d : Nat) (hd : d < l.length), okB l[d] (i + d) n = false → (∀ k (h : k < l.length), k < d → okB l[k] (i + k) n = true) → badFrom n l i = some (i + d) by
    have := this ops 0 m hm (by simpa using hb) (fun k h hk => by simpa using ha k h hk)
    simpa using this
  intro l
  induction l with
  | nil => intro i d hd; simp at hd
  | cons x r ih =>
    intro i d hd h1 h2
    cases d with
    | zero => simp at h1; simp [badFrom, h1]
    | succ d =>
      have h0 := h2 0 (by simp) (by omega)
      simp at h0
      simp only [badFrom, h0, if_true]
      have := ih (i + 1) d (by simpa using hd) (by simpa [Nat.add_assoc, Nat.add_comm 1 d] using h1) (fun k h hk => by
        have := h2 (k + 1) (by simpa using h) (by omega)
        simpa [Nat.add_assoc, Nat.add_comm 1 k] using this)
      rw [this]; congr 1; omega
theorem badFrom_none {n : Nat} {ops : List TOp} (ha : ∀ k (h : k < ops.length), okB ops[k] k n = true) : badFrom n ops 0 = none := by
  suffices ∀ (l : List TOp) (i : Nat), (∀ k (h : k < l.length), okB l[k] (i + k) n = true) → badFrom n l i = none from this ops 0 (fun k h => by simpa using ha k h)
  intro l
  induction l with
  | nil => intro i _; rfl
  | cons x r ih =>
    intro i h2
    have h0 := h2 0 (by simp)
    simp at h0
    simp only [badFrom, h0, if_true]
    exact ih (i + 1) (fun k h => by
      have := h2 (k + 1) (by simpa using h)
      simpa [Nat.add_assoc, Nat.add_comm 1 k] using this)

theorem insB_false {x : TOp} {i m : Nat} (hm : m < x.fIn.length) (hb : ¬ (0 ≤ x.fIn[m] ∧ x.fIn[m] < i)) : insB x i = false := by
  unfold insB
  rw [List.all_eq_false]
  exact ⟨x.fIn[m], List.getElem_mem _, by simpa using hb⟩
theorem insB_true {x : TOp} {i : Nat} (h : ∀ m (hm : m < x.fIn.length), 0 ≤ x.fIn[m] ∧ x.fIn[m] < i) : insB x i = true := by
  unfold insB
  rw [List.all_eq_true]
  intro k hk
  obtain ⟨m, hm, rfl⟩ := List.getElem_of_mem hk
  simpa using h m hm
/-- The first input that isn't right, or none. -/
theorem ins_cases (x : TOp) (i : Nat) : (∀ m (hm : m < x.fIn.length), 0 ≤ x.fIn[m] ∧ x.fIn[m] < i) ∨
    ∃ m, ∃ hm : m < x.fIn.length, ¬ (0 ≤ x.fIn[m] ∧ x.fIn[m] < (i : Int)) ∧ ∀ k (hk : k < x.fIn.length), k < m → 0 ≤ x.fIn[k] ∧ x.fIn[k] < i := by
  suffices ∀ l : List Int, (∀ m (hm : m < l.length), 0 ≤ l[m] ∧ l[m] < (i : Int)) ∨ ∃ m, ∃ hm : m < l.length, ¬ (0 ≤ l[m] ∧ l[m] < (i : Int)) ∧ ∀ k (hk : k < l.length), k < m → 0 ≤ l[k] ∧ l[k] < (i : Int) from this x.fIn
  intro l
  induction l with
  | nil => left; intro m hm; simp at hm
  | cons a r ih =>
    by_cases ha : 0 ≤ a ∧ a < (i : Int)
    · rcases ih with h | ⟨m, hm, h1, h2⟩
      · left
        intro m hm
        cases m with
        | zero => exact ha
        | succ m => exact h m (by simpa using hm)
      · right
        refine ⟨m + 1, by simpa using hm, by simpa using h1, fun k hk hkm => ?_⟩
        cases k with
        | zero => exact ha
        | succ k => exact h2 k (by simpa using hk) (by omega)
    · right
      exact ⟨0, by simp, by simpa using ha, fun k hk hkm => by omega⟩
end Go.Proofs.Ytmoengfpbgpnfaa
