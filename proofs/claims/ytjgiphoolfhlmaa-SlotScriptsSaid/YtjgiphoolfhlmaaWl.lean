/- Wire: all bytes are below 256; List. -/
import Derived.Test.YtjgiphoolfhlmaaWk
import Derived.Test.YtjgiphoolfhlmaaL1
namespace Go.Proofs.Ytjgiphoolfhlmaa
open Go.RowKit
set_option linter.unusedVariables false

mutual
theorem encI_lt : ∀ (x : Itm), okI x = true → ∀ b ∈ encI x, b < 256
  | .mk k n s l, h, b, hb => by
    rw [okI, Bool.and_eq_true] at h
    rw [encI] at hb
    rcases form_int h.1 with ⟨rfl, _, _⟩ | ⟨rfl, _, _⟩ | ⟨rfl, _, _⟩
    · rw [if_pos rfl] at hb
      rcases List.mem_cons.1 hb with rfl | hb
      · decide
      · exact digsF_lt _ _ b hb
    · rw [if_neg (by decide), if_pos rfl] at hb
      rcases List.mem_cons.1 hb with rfl | hb
      · decide
      · rcases List.mem_append.1 hb with hb | hb
        · exact digsF_lt _ _ b hb
        · exact txtB_lt _ b hb
    · rw [if_neg (by decide), if_neg (by decide)] at hb
      rcases List.mem_cons.1 hb with rfl | hb
      · decide
      · rcases List.mem_append.1 hb with hb | hb
        · exact digsF_lt _ _ b hb
        · exact encL_lt l h.2 b hb
theorem encL_lt : ∀ (l : List Itm), okL l = true → ∀ b ∈ encL l, b < 256
  | [], _, b, hb => by rw [encL] at hb; simp at hb
  | x :: r, h, b, hb => by
    rw [okL, Bool.and_eq_true] at h
    rw [encL] at hb
    rcases List.mem_append.1 hb with hb | hb
    · exact encI_lt x h.1 b hb
    · exact encL_lt r h.2 b hb
end
theorem encV_lt (l : List Itm) : ∀ b ∈ (encV l).2, b < 256 := by
  intro b hb
  unfold encV at hb
  have hck := chkL_ok l 1 0
  by_cases h1 : (chkL l 1 0).2 = 0
  · rw [if_neg (by simpa using h1)] at hb
    by_cases h2 : 65536 < sizL l ∨ 65536 < (encL l).length
    · rw [if_pos h2] at hb; simp at hb
    · rw [if_neg h2] at hb; exact encL_lt l (hck h1).1 b hb
  · rw [if_pos h1] at hb; simp at hb
/-- An item, and where its list lies. -/
structure PIt where
  x : Itm
  ao : Option Addr
  cap : Nat
def encP (p : PIt) : List Value := [.int .i64 p.x.kind, .int .i64 p.x.num, .string p.x.txt, .slice p.ao p.x.lst.length p.cap]
theorem encP_len (p : PIt) : (encP p).length = 4 := rfl
theorem encP_one (p : PIt) : ∀ u ∈ encP p, u.oneCell' = true := by
  intro u hu
  simp only [encP, List.mem_cons, List.not_mem_nil, or_false] at hu
  rcases hu with rfl | rfl | rfl | rfl <;> rfl

theorem RIts.pairs {d B : Nat} {w : World} {ao : Option Addr} {cap : Nat} {l : List Itm} (h : RIts d B w ao cap l) :
    ∃ ps : List PIt, ps.map (·.x) = l ∧ (∀ p ∈ ps, RIt d B w (encP p) p.x) ∧ SlA B 4 (fun _ cs p => cs = encP p) w ao cap ps := by
  obtain ⟨⟨h1, h2, h3, h4⟩, h5⟩ := h
  by_cases hne : l = []
  · subst hne
    exact ⟨[], rfl, by simp, h1, h2, h3, by simp⟩
  · obtain ⟨b, off, rfl, hb, hel⟩ := h4 hne
    have hall : ∀ i, i < l.length → ∃ p : PIt, l[i]? = some p.x ∧ RIt d B w (encP p) p.x ∧ ∀ j, j < 4 → w.cell? ⟨b, off + (i * 4 + j), none⟩ = (encP p)[j]? := by
      intro i hi
      obtain ⟨cs, hcl, hc, hr⟩ := hel i hi
      obtain ⟨⟨k, n, s, r⟩, hx⟩ : ∃ x, l[i] = x := ⟨_, rfl⟩
      rw [hx] at hr
      cases d with
      | zero => exact hr.elim
      | succ d =>
        obtain ⟨ao, c, rfl, q1⟩ := hr
        exact ⟨⟨.mk k n s r, ao, c⟩, by rw [List.getElem?_eq_getElem hi, hx], ⟨ao, c, rfl, q1⟩, hc⟩
    obtain ⟨ps, hpl, hps⟩ := list_of_all hall
    refine ⟨ps, ?_, ?_, by omega, h2, h3, fun _ => ⟨b, off, rfl, hb, fun i hi => ⟨encP ps[i], rfl, (hps i hi).2.2, rfl⟩⟩⟩
    · apply List.ext_getElem?
      intro i
      by_cases hi : i < ps.length
      · rw [(hps i hi).1]; simp [hi]
      · rw [List.getElem?_eq_none (by simp; omega), List.getElem?_eq_none (by omega)]
    · intro p hp
      obtain ⟨i, hi, rfl⟩ := List.mem_iff_getElem.1 hp
      exact (hps i hi).2.1

theorem RIts.of_own {d base : Nat} {w : World} {v : Value} {ps : List PIt} {e : TypeId} (h : OwnL encP w base e 4 v ps) (hE : ∀ p ∈ ps, RIt d w.heap.size w (encP p) p.x) (hl : ps.length * 56 ≤ 140737488355328) :
    ∃ ao cap, v = .slice ao ps.length cap ∧ RIts d w.heap.size w ao cap (ps.map (·.x)) := by
  obtain ⟨ao, cap, rfl, h1, h2, h3, h4⟩ := h.sla (E := fun w cs p => RIt d w.heap.size w cs p.x) encP_len hE
  refine ⟨ao, cap, rfl, ⟨by simpa using h1, h2, h3, fun hne => ?_⟩, by simpa using hl⟩
  obtain ⟨b, off, rfl, hb, hel⟩ := h4 (fun h => hne (by simp [h]))
  refine ⟨b, off, rfl, hb, fun i hi => ?_⟩
  obtain ⟨cs, q1, q2, q3⟩ := hel i (by simpa using hi)
  exact ⟨cs, q1, q2, by simpa using q3⟩
theorem infoI : (Try.prog.info? 63).map (fun i => (i.zero, i.size, i.bytes)) = some (some (.agg #[.int .i64 0, .int .i64 0, .string ⟨#[]⟩, .slice none 0 0]), 4, 56) := by kernel_rfl

end Go.Proofs.Ytjgiphoolfhlmaa
