/- Graph: what leads where: plain Lean. -/
import Derived.Test.YtmoengfpbgpnfaaGu
namespace Go.Proofs.Ytmoengfpbgpnfaa
set_option linter.unusedVariables false

/-- a is an input of b. -/
def EdgeG (ops : List TOp) (a b : Nat) : Prop := ∃ o, ops[b]? = some o ∧ (a : Int) ∈ o.fIn
inductive PathG (ops : List TOp) : Nat → Nat → Prop
  | refl (a : Nat) : PathG ops a a
  | step {a b c : Nat} : EdgeG ops a b → PathG ops b c → PathG ops a c
/-- A right graph: the inputs lie ahead. -/
structure OkG (ops : List TOp) : Prop where
  pos : 1 ≤ ops.length
  most : ops.length ≤ 16
  ins : ∀ (b : Nat) (o : TOp), ops[b]? = some o → ∀ k ∈ o.fIn, 0 ≤ k ∧ k < (b : Int)

theorem badFrom_some {n : Nat} : ∀ (l : List TOp) (i : Nat), badFrom n l i = none → ∀ k (h : k < l.length), okB l[k] (i + k) n = true
  | [], _, _, k, h => absurd h (Nat.not_lt_zero _)
  | x :: r, i, hb, k, h => by
    unfold badFrom at hb
    by_cases hx : okB x i n = true
    · rw [if_pos hx] at hb
      cases k with
      | zero => simpa using hx
      | succ k =>
        have := badFrom_some r (i + 1) hb k (by simpa using h)
        simpa [Nat.add_assoc, Nat.add_comm 1 k] using this
    · rw [if_neg hx] at hb; cases hb
theorem okG_of_check {ops : List TOp} (h : (gcheck ops).2 = 0) : OkG ops := by
  unfold gcheck at h
  by_cases hl : ops.length < 1 ∨ 16 < ops.length
  · rw [if_pos hl] at h; simp at h
  · rw [if_neg hl] at h
    cases hb : badFrom ops.length ops 0 with
    | some i => rw [hb] at h; simp at h
    | none =>
      refine ⟨by omega, by omega, fun b o ho k hk => ?_⟩
      obtain ⟨hbl, rfl⟩ := List.getElem?_eq_some_iff.1 ho
      have := badFrom_some ops 0 hb b hbl
      unfold okB insB at this
      simp only [Nat.zero_add, Bool.and_eq_true, List.all_eq_true, decide_eq_true_eq] at this
      exact this.2 k hk
theorem check_bad {ops : List TOp} (h : (gcheck ops).2 ≠ 0) : (gcheck ops).2 = 2 ∨ (gcheck ops).2 = 13 := by
  unfold gcheck at h ⊢
  split
  · exact .inl rfl
  · rename_i hl
    rw [if_neg hl] at h
    cases hb : badFrom ops.length ops 0 with
    | some i => exact .inr rfl
    | none => rw [hb] at h; exact absurd rfl h

theorem EdgeG.lt {ops : List TOp} (hg : OkG ops) {a b : Nat} (h : EdgeG ops a b) : a < b ∧ b < ops.length := by
  obtain ⟨o, ho, hm⟩ := h
  have := hg.ins b o ho a hm
  exact ⟨by omega, (List.getElem?_eq_some_iff.1 ho).1⟩
theorem PathG.trans {ops : List TOp} {a b c : Nat} (h : PathG ops a b) (k : PathG ops b c) : PathG ops a c := by
  induction h with
  | refl => exact k
  | step e _ ih => exact .step e (ih k)
theorem PathG.le {ops : List TOp} (hg : OkG ops) {a b : Nat} (h : PathG ops a b) : a ≤ b := by
  induction h with
  | refl => exact Nat.le_refl _
  | step e _ ih => have := e.lt hg; omega
theorem PathG.antisymm {ops : List TOp} (hg : OkG ops) {a b : Nat} (h : PathG ops a b) (k : PathG ops b a) : a = b := by
  have := h.le hg; have := k.le hg; omega
theorem pathG_head {ops : List TOp} (a c : Nat) : PathG ops a c ↔ a = c ∨ ∃ b, EdgeG ops a b ∧ PathG ops b c := by
  constructor
  · rintro (_ | ⟨e, h⟩)
    · exact .inl rfl
    · exact .inr ⟨_, e, h⟩
  · rintro (rfl | ⟨b, e, h⟩)
    · exact .refl _
    · exact .step e h
theorem pathG_tail {ops : List TOp} (a c : Nat) : PathG ops a c ↔ a = c ∨ ∃ b, PathG ops a b ∧ EdgeG ops b c := by
  constructor
  · intro h
    induction h with
    | refl => exact .inl rfl
    | step e h ih =>
      rcases ih with rfl | ⟨d, h1, h2⟩
      · exact .inr ⟨_, .refl _, e⟩
      · exact .inr ⟨d, .step e h1, h2⟩
  · rintro (rfl | ⟨b, h, e⟩)
    · exact .refl _
    · exact h.trans (.step e (.refl _))

open Classical in
/-- Does a lead to c? -/
noncomputable def rch (ops : List TOp) (a c : Nat) : Bool := decide (PathG ops a c)
theorem rch_iff {ops : List TOp} {a c : Nat} : rch ops a c = true ↔ PathG ops a c := by simp [rch]

theorem mem_insK {i j k : Nat} {ins : List Int} {fr : Int} {m : Nat} : (i, j) ∈ insK k ins fr m ↔ i = k ∧ j < m ∧ ins[j]?.getD 0 = fr := by
  unfold insK
  simp only [List.mem_map, List.mem_filter, List.mem_range, beq_iff_eq, Prod.mk.injEq]
  constructor
  · rintro ⟨x, ⟨h1, h2⟩, rfl, rfl⟩; exact ⟨rfl, h1, h2⟩
  · rintro ⟨rfl, h1, h2⟩; exact ⟨j, ⟨h1, h2⟩, rfl, rfl⟩
theorem mem_usesK {i j m : Nat} {ops : List TOp} {fr : Int} (hm : m ≤ ops.length) : (i, j) ∈ usesK ops fr m ↔ i < m ∧ ∃ o, ops[i]? = some o ∧ o.fIn[j]? = some fr := by
  unfold usesK
  rw [List.mem_flatMap]
  constructor
  · rintro ⟨k, hk, h⟩
    have hk := List.mem_range.1 hk
    obtain ⟨rfl, h1, h2⟩ := mem_insK.1 h
    obtain ⟨o, ho⟩ : ∃ o, ops[i]? = some o := ⟨_, List.getElem?_eq_getElem (by omega)⟩
    rw [ho] at h1 h2
    simp only [Option.map_some, Option.getD_some] at h1 h2
    exact ⟨hk, o, ho, by rw [List.getElem?_eq_getElem h1] at h2 ⊢; simpa using h2⟩
  · rintro ⟨hi, o, ho, h⟩
    refine ⟨i, List.mem_range.2 hi, ?_⟩
    rw [ho]
    simp only [Option.map_some, Option.getD_some]
    exact mem_insK.2 ⟨rfl, (List.getElem?_eq_some_iff.1 h).1, by rw [h]; rfl⟩
theorem mem_usesL {i j : Nat} {ops : List TOp} {fr : Int} : (i, j) ∈ usesL ops fr ↔ ∃ o, ops[i]? = some o ∧ o.fIn[j]? = some fr := by
  unfold usesL
  rw [mem_usesK (Nat.le_refl _)]
  constructor
  · rintro ⟨_, h⟩; exact h
  · rintro ⟨o, ho, h⟩; exact ⟨(List.getElem?_eq_some_iff.1 ho).1, o, ho, h⟩
theorem edge_uses {ops : List TOp} {a b : Nat} : EdgeG ops a b ↔ ∃ x ∈ usesL ops a, x.1 = b := by
  constructor
  · rintro ⟨o, ho, hm⟩
    obtain ⟨j, hj⟩ := List.mem_iff_getElem?.1 hm
    exact ⟨(b, j), mem_usesL.2 ⟨o, ho, hj⟩, rfl⟩
  · rintro ⟨⟨i, j⟩, h, rfl⟩
    obtain ⟨o, ho, h2⟩ := mem_usesL.1 h
    exact ⟨o, ho, List.mem_iff_getElem?.2 ⟨j, h2⟩⟩

/-- What is known of row a when the uses in pre have come. -/
noncomputable def rowTo (ops : List TOp) (a : Nat) (pre : List (Nat × Nat)) (c : Nat) : Bool := a == c || pre.any fun x => rch ops x.1 c
theorem rowTo_all (ops : List TOp) (a c : Nat) : rowTo ops a (usesL ops a) c = rch ops a c := by
  rw [Bool.eq_iff_iff, rch_iff, pathG_head]
  unfold rowTo
  simp only [Bool.or_eq_true, beq_iff_eq, List.any_eq_true, rch_iff]
  refine or_congr Iff.rfl ⟨?_, ?_⟩
  · rintro ⟨x, hx, hp⟩; exact ⟨x.1, edge_uses.2 ⟨x, hx, rfl⟩, hp⟩
  · rintro ⟨b, e, hp⟩
    obtain ⟨x, hx, rfl⟩ := edge_uses.1 e
    exact ⟨x, hx, hp⟩
theorem rowTo_snoc (ops : List TOp) (a : Nat) (pre : List (Nat × Nat)) (x : Nat × Nat) (c : Nat) : rowTo ops a (pre ++ [x]) c = (rowTo ops a pre c || rch ops x.1 c) := by
  unfold rowTo
  simp [List.any_append, Bool.or_assoc]
theorem uses_lt {ops : List TOp} (hg : OkG ops) {a : Nat} {x : Nat × Nat} (h : x ∈ usesL ops a) : a < x.1 ∧ x.1 < ops.length :=
  (edge_uses.2 ⟨x, h, rfl⟩ : EdgeG ops a x.1).lt hg
end Go.Proofs.Ytmoengfpbgpnfaa
