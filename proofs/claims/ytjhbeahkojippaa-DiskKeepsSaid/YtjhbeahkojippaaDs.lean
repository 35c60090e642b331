/- Disk (as for Wire): rows of bytes that share no memory: append of one byte. -/
import Derived.Test.YtjhbeahkojippaaDr
import Derived.ArgAppend
namespace Go.Proofs.Ytjhbeahkojippaa
open Go.RowKit
set_option linter.unusedVariables false

/-- The slice v of m bytes lies whole in a block of its own; its first j bytes are k. -/
def RowJ (w : World) (v : Value) (m j k : Nat) : Prop :=
  (v = .slice none 0 0 ∧ m = 0 ∧ j = 0) ∨ ∃ g cap cells, v = .slice (some ⟨g, 0, none⟩) m cap ∧ Blk w g cells 5 ∧ m ≤ cap ∧ cap ≤ maxLen ∧ cells.size = cap ∧ j ≤ m ∧ ∀ i, i < j → cells[i]? = some (.int .u8 k)
theorem RowJ.of_own {w : World} {base : Nat} {v : Value} {bs : List UInt8} (h : OwnL encU w base 5 1 v bs) (k : Nat) : RowJ w v bs.length 0 k := by
  rcases h.form with ⟨h1, rfl⟩ | ⟨g, cap, cells, h1, h2, h3, h4, h5, h6, h7, h8⟩
  · exact .inl ⟨h1, rfl, rfl⟩
  · exact .inr ⟨g, cap, cells, h1, h2, h3, h4, by simpa using h5, Nat.zero_le _, fun i hi => absurd hi (by omega)⟩
theorem RowJ.heap {w w' : World} {v : Value} {m j k : Nat} (h : RowJ w v m j k) (hg : ∀ g, v.ownBlock = some g → w'.heap[g]? = w.heap[g]?) : RowJ w' v m j k := by
  rcases h with h | ⟨g, cap, cells, rfl, hb, h1, h2, h3, h4, h5⟩
  · exact .inl h
  · exact .inr ⟨g, cap, cells, rfl, (hg g rfl).trans hb, h1, h2, h3, h4, h5⟩
theorem RowJ.lt {w : World} {v : Value} {m j k : Nat} (h : RowJ w v m j k) : ∀ g, v.ownBlock = some g → g < w.heap.size := by
  intro g hg
  rcases h with ⟨rfl, _⟩ | ⟨g', cap, cells, rfl, hb, _⟩
  · simp [Value.ownBlock] at hg
  · cases hg; exact hb.lt
theorem RowJ.ne {w : World} {v : Value} {m j k lb : Nat} {cs : Array Value} {T : TypeId} (h : RowJ w v m j k) (hL : Blk w lb cs T) (hT : 5 ≠ T) : v.ownBlock ≠ some lb := by
  intro hg
  rcases h with ⟨rfl, _⟩ | ⟨g', cap, cells, rfl, hb, _⟩
  · simp [Value.ownBlock] at hg
  · cases hg
    unfold Blk at hb hL
    rw [hb] at hL
    simp only [Option.some.injEq, Obj.cells.injEq] at hL
    exact hT hL.2.1
theorem RowJ.less {w : World} {v : Value} {m j j' k : Nat} (h : RowJ w v m j k) (hj : j' ≤ j) : RowJ w v m j' k := by
  rcases h with ⟨h1, h2, h3⟩ | ⟨g, cap, cells, rfl, hb, h1, h2, h3, h4, h5⟩
  · exact .inl ⟨h1, h2, by omega⟩
  · exact .inr ⟨g, cap, cells, rfl, hb, h1, h2, h3, by omega, fun i hi => h5 i (by omega)⟩
/-- A byte of its block is written: at g, i. -/
theorem RowJ.set {w : World} {v : Value} {m j k g i : Nat} {x : Value} (h : RowJ w v m j k) (hi : v.ownBlock = some g → j ≤ i) : RowJ (w.setCell ⟨g, i, none⟩ x) v m j k := by
  rcases h with h | ⟨g', cap, cells, rfl, hb, h1, h2, h3, h4, h5⟩
  · exact .inl h
  · by_cases hg : g' = g
    · subst hg
      have hji := hi rfl
      exact .inr ⟨g', cap, _, rfl, hb.set i x, h1, h2, by simpa using h3, h4, fun q hq => by rw [Array.getElem?_setIfInBounds, if_neg (by omega)]; exact h5 q hq⟩
    · exact .inr ⟨g', cap, cells, rfl, hb.set_other (p := ⟨g, i, none⟩) hg x, h1, h2, h3, h4, h5⟩
theorem RowJ.step {w : World} {m j k g cap : Nat} (h : RowJ w (.slice (some ⟨g, 0, none⟩) m cap) m j k) (hj : j < m) : RowJ (w.setCell ⟨g, j, none⟩ (.int .u8 k)) (.slice (some ⟨g, 0, none⟩) m cap) m (j + 1) k := by
  rcases h with ⟨h1, _⟩ | ⟨g', cap', cells, he, hb, h1, h2, h3, h4, h5⟩
  · cases h1
  · cases he
    refine .inr ⟨g, cap, _, rfl, hb.set j _, h1, h2, by simpa using h3, by omega, fun q hq => ?_⟩
    rw [Array.getElem?_setIfInBounds]
    by_cases hqj : j = q
    · subst hqj; rw [if_pos rfl, if_pos (by omega)]
    · rw [if_neg hqj]; exact h5 q (by omega)
/-- The cell of a byte. -/
theorem RowJ.cell {w : World} {m j k g cap i : Nat} (h : RowJ w (.slice (some ⟨g, 0, none⟩) m cap) m j k) (hi : i < m) : (∃ v, w.cell? ⟨g, i, none⟩ = some v) ∧ w.frozen? ⟨g, i, none⟩ = false ∧ (i < j → w.cell? ⟨g, i, none⟩ = some (.int .u8 k)) := by
  rcases h with ⟨h1, _⟩ | ⟨g', cap', cells, he, hb, h1, h2, h3, h4, h5⟩
  · cases h1
  · cases he
    exact ⟨⟨cells[i]'(by omega), by rw [hb.cell]; exact Array.getElem?_eq_getElem _⟩, hb.frozen i, fun hij => by rw [hb.cell]; exact h5 i hij⟩

/-- append of one byte to a full row of k's: the new row, and what becomes of other rows. -/
theorem run_app_byte (w : World) (ty : TypeId) {v : Value} {m k : Nat} (h : RowJ w v m m k) (hm : m + 1 ≤ 1000000) {i0 : TypeInfo} (hi : Try.prog.info? 5 = some i0) (hz : i0.zero = some (.int .u8 0)) (h1 : i0.size = 1) (h2 : i0.bytes = 1)
    {a : Addr} (ha : w.cell? (a.add 0) = some (.int .u8 k)) :
    ∃ v' w', (Builtin.append_ #[23, 23] ty #[v, .slice (some a) 1 1]).run Try.prog w = .ok v' w' ∧ RowJ w' v' (m + 1) (m + 1) k ∧ (v'.ownBlock = v.ownBlock ∨ ∃ g, v'.ownBlock = some g ∧ w.heap.size ≤ g) ∧ v' ≠ .slice none 0 0 ∧
      Chg (fun b => v.ownBlock = some b) w w' ∧ ∀ (u : Value) (mu j q : Nat), RowJ w u mu j q → (u.ownBlock = v.ownBlock → j ≤ m) → RowJ w' u mu j q := by
  have hnews : ∀ j u, ([Value.int .u8 (k : Int)] : List Value)[j]? = some u → w.cell? (a.add j) = some u := by
    intro j u hj
    match j, hj with
    | 0, hj => simp at hj; rw [← hj]; exact ha
  have hone : ∀ u ∈ ([Value.int .u8 (k : Int)] : List Value), u.oneCell' = true := by simp [Value.oneCell']
  rcases h with ⟨rfl, rfl, _⟩ | ⟨g, cap, cells, rfl, hb, hmc, hcm, hcs, _, h5⟩
  · obtain ⟨v', w', hr, hown, hgr, hnil⟩ := run_append_own (P := Try.prog) w w.heap.size 23 ty 5 i0 (.int .u8 0) 1 1 Try.underlying23 hi hz h1 h2 rfl (by decide) (.slice none 0 0) 0 [] (World.ownsRow_nil w _ _ 1) a 1 1 [.int .u8 k] rfl hnews hone (by unfold maxLen; omega) (by omega) (Nat.le_refl _)
    have hne : v' ≠ .slice none 0 0 := fun hv => absurd (hnil.1 hv).2 (by omega)
    obtain ⟨_, ho⟩ := hown
    rcases ho with ⟨hv, _⟩ | ⟨g, cap, cur, rfl, hg, hh, q1, q2, q3, q4⟩
    · exact absurd hv hne
    · refine ⟨_, w', hr, .inr ⟨g, cap, cur, rfl, hh, by omega, q2, by simpa using q3, by omega, fun i hi => ?_⟩, .inr ⟨g, rfl, hg⟩, hne, (Chg.of_grown hgr).mono (fun _ _ h => h.symm ▸ h), fun u mu j q hu _ => hu.heap fun g' hg' => hgr.block g' (hu.lt g' hg') (by simp [Value.ownBlock])⟩
      obtain rfl : i = 0 := by omega
      have := congrArg (fun l : List Value => l[0]?) q4
      simp at this
      rw [← Array.getElem?_toList]
      simpa using this
  · by_cases hroom : m + 1 ≤ cap
    · have hr := run_append_room_cells (P := Try.prog) w 23 ty 5 i0 Try.underlying23 hi g 0 m cap a 1 1 [.int .u8 k] (by rw [h1]; rfl) hnews hone hroom
        (fun j hj => by
          obtain rfl : j = 0 := by simpa using hj
          rw [h1, hb.cell]
          rw [Array.getElem?_eq_getElem (by omega)]; rfl)
        (fun j hj => hb.frozen _)
      rw [h1, Nat.zero_add, Nat.mul_one] at hr
      have hset : w.setCells g m [.int .u8 k] = w.setCell ⟨g, m, none⟩ (.int .u8 k) := rfl
      rw [hset] at hr
      refine ⟨_, _, hr, .inr ⟨g, cap, _, rfl, hb.set m _, hroom, hcm, by simpa using hcs, Nat.le_refl _, fun i hi => ?_⟩, .inl rfl, by simp, (Chg.refl _ _).setCell ⟨g, m, none⟩ _ (fun _ => rfl), fun u mu j q hu hj => hu.set (fun hug => hj (by rw [hug]; rfl))⟩
      rw [Array.getElem?_setIfInBounds]
      by_cases hqj : m = i
      · subst hqj; rw [if_pos rfl, if_pos (by omega)]
      · rw [if_neg hqj]; exact h5 i (by omega)
    · obtain ⟨v', w', hr, hown, hgr⟩ := run_append_arg_grows (P := Try.prog) w 23 ty 5 i0 (.int .u8 0) 1 1 Try.underlying23 hi hz h1 h2 rfl (by decide) ⟨g, 0, none⟩ m cap (List.replicate m (.int .u8 k)) (by simp) (fun j u hj => by
          have hjm : j < m := by have := (List.getElem?_eq_some_iff.1 hj).1; simpa using this
          rw [show (⟨g, 0, none⟩ : Addr).add j = ⟨g, j, none⟩ by unfold Addr.add; split <;> simp_all, hb.cell, h5 j hjm]
          rw [List.getElem?_replicate, if_pos hjm] at hj
          exact hj) a 1 1 [.int .u8 k] rfl hnews (by omega) (by unfold maxLen; omega) (by omega)
      obtain ⟨_, ho⟩ := hown
      rcases ho with ⟨_, h0⟩ | ⟨g', cap', cur, rfl, hg', hh, q1, q2, q3, q4⟩
      · omega
      · refine ⟨_, w', hr, .inr ⟨g', cap', cur, rfl, hh, by omega, q2, by simpa using q3, Nat.le_refl _, fun i hi => ?_⟩, .inr ⟨g', rfl, hg'⟩, by simp, (Chg.of_grown hgr).mono (fun _ _ h => by cases h), fun u mu j q hu _ => hu.heap fun g2 hg2 => hgr.block g2 (hu.lt g2 hg2) (by simp)⟩
        have h6 := congrArg (fun l : List Value => l[i]?) q4
        simp only [Nat.mul_one] at h6
        rw [List.getElem?_take, if_pos hi] at h6
        rw [← Array.getElem?_toList, h6]
        rcases Nat.lt_or_ge i m with hlt | hge
        · rw [List.getElem?_append_left (by simpa using hlt), List.getElem?_replicate, if_pos hlt]
        · rw [List.getElem?_append_right (by simpa using hge)]
          have : i - (List.replicate m (Value.int .u8 (k : Int))).length = 0 := by simp; omega
          rw [this]; rfl
end Go.Proofs.Ytjhbeahkojippaa
