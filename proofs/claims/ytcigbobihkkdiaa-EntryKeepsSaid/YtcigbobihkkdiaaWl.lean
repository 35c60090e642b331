/- Wire: all bytes are below 256; List. -/
import Derived.Test.YtcigbobihkkdiaaWk
import Derived.Test.YtcigbobihkkdiaaBaseP
namespace Go.Proofs.Ytcigbobihkkdiaa
open Go.RowKit
set_option linter.unusedVariables false

mutual
theorem encI_lt : ∀ (x : Itm), okI x = true → ∀ b ∈ encI x, b < 256
  | .mk k n s l, h, b, hb => by
    rw [okI, Bool.and_eq_true] at h
    rw [encI] at hb
    rcases form_int h.1 with ⟨rfl, _, _⟩ | ⟨rfl, _, _⟩ | ⟨rfl, _, _⟩
    · rw [if_pos rfl] at hb
      rcases List.mem_cons.1 hb with rfl | hb
      · decide
      · exact digsF_lt _ _ b hb
    · rw [if_neg (by decide), if_pos rfl] at hb
      rcases List.mem_cons.1 hb with rfl | hb
      · decide
      · rcases List.mem_append.1 hb with hb | hb
        · exact digsF_lt _ _ b hb
        · exact txtB_lt _ b hb
    · rw [if_neg (by decide), if_neg (by decide)] at hb
      rcases List.mem_cons.1 hb with rfl | hb
      · decide
      · rcases List.mem_append.1 hb with hb | hb
        · exact digsF_lt _ _ b hb
        · exact encL_lt l h.2 b hb
theorem encL_lt : ∀ (l : List Itm), okL l = true → ∀ b ∈ encL l, b < 256
  | [], _, b, hb => by rw [encL] at hb; simp at hb
  | x :: r, h, b, hb => by
    rw [okL, Bool.and_eq_true] at h
    rw [encL] at hb
    rcases List.mem_append.1 hb with hb | hb
    · exact encI_lt x h.1 b hb
    · exact encL_lt r h.2 b hb
end
theorem encV_lt (l : List Itm) : ∀ b ∈ (encV l).2, b < 256 := by
  intro b hb
  unfold encV at hb
  have hck := chkL_ok l 1 0
  by_cases h1 : (chkL l 1 0).2 = 0
  · rw [if_neg (by simpa using h1)] at hb
    by_cases h2 : 65536 < sizL l ∨ 65536 < (encL l).length
    · rw [if_pos h2] at hb; simp at hb
    · rw [if_neg h2] at hb; exact encL_lt l (hck h1).1 b hb
  · rw [if_pos h1] at hb; simp at hb
/-- An item, and where its list lies. -/
structure PIt where
  x : Itm
  ao : Option Addr
  cap : Nat
def encP (p : PIt) : List Value := [.int .i64 p.x.kind, .int .i64 p.x.num, .string p.x.txt, .slice p.ao p.x.lst.length p.cap]
theorem encP_len (p : PIt) : (encP p).length = 4 := rfl
theorem encP_one (p : PIt) : ∀ u ∈ encP p, u.oneCell' = true := by
  intro u hu
  simp only [encP, List.mem_cons, List.not_mem_nil, or_false] at hu
  rcases hu with rfl | rfl | rfl | rfl <;> rfl

theorem RIts.pairs {d B : Nat} {w : World} {ao : Option Addr} {cap : Nat} {l : List Itm} (h : RIts d B w ao cap l) :
    ∃ ps : List PIt, ps.map (·.x) = l ∧ (∀ p ∈ ps, RIt d B w (encP p) p.x) ∧ SlA B 4 (fun _ cs p => cs = encP p) w ao cap ps := by
  obtain ⟨⟨h1, h2, h3, h4⟩, h5⟩ := h
  by_cases hne : l = []
  · subst hne
    exact ⟨[], rfl, by simp, h1, h2, h3, by simp⟩
  · obtain ⟨b, off, rfl, hb, hel⟩ := h4 hne
    have hall : ∀ i, i < l.length → ∃ p : PIt, l[i]? = some p.x ∧ RIt d B w (encP p) p.x ∧ ∀ j, j < 4 → w.cell? ⟨b, off + (i * 4 + j), none⟩ = (encP p)[j]? := by
      intro i hi
      obtain ⟨cs, hcl, hc, hr⟩ := hel i hi
      obtain ⟨⟨k, n, s, r⟩, hx⟩ : ∃ x, l[i] = x := ⟨_, rfl⟩
      rw [hx] at hr
      cases d with
      | zero => exact hr.elim
      | succ d =>
        obtain ⟨ao, c, rfl, q1⟩ := hr
        exact ⟨⟨.mk k n s r, ao, c⟩, by rw [List.getElem?_eq_getElem hi, hx], ⟨ao, c, rfl, q1⟩, hc⟩
    obtain ⟨ps, hpl, hps⟩ := list_of_all hall
    refine ⟨ps, ?_, ?_, by omega, h2, h3, fun _ => ⟨b, off, rfl, hb, fun i hi => ⟨encP ps[i], rfl, (hps i hi).2.2, rfl⟩⟩⟩
    · apply List.ext_getElem?
      intro i
      by_cases hi : i < ps.length
      · rw [(hps i hi).1]; simp [hi]
      · rw [List.getElem?_eq_none (by simp; omega), List.getElem?_eq_none (by omega)]
    · intro p hp
      obtain ⟨i, hi, rfl⟩ := List.mem_iff_getElem.1 hp
      exact (hps i hi).2.1

theorem RIts.of_own {d base : Nat} {w : World} {v : Value} {ps : List PIt} {e : TypeId} (h : OwnL encP w base e 4 v ps) (hE : ∀ p ∈ ps, RIt d w.heap.size w (encP p) p.x) (hl : ps.length * 56 ≤ 140737488355328) :
    ∃ ao cap, v = .slice ao ps.length cap ∧ RIts d w.heap.size w ao cap (ps.map (·.x)) := by
  obtain ⟨ao, cap, rfl, h1, h2, h3, h4⟩ := h.sla (E := fun w cs p => RIt d w.heap.size w cs p.x) encP_len hE
  refine ⟨ao, cap, rfl, ⟨by simpa using h1, h2, h3, fun hne => ?_⟩, by simpa using hl⟩
  obtain ⟨b, off, rfl, hb, hel⟩ := h4 (fun h => hne (by simp [h]))
  refine ⟨b, off, rfl, hb, fun i hi => ?_⟩
  obtain ⟨cs, q1, q2, q3⟩ := hel i (by simpa using hi)
  exact ⟨cs, q1, q2, by simpa using q3⟩
theorem infoI : (Try.prog.info? 50).map (fun i => (i.zero, i.size, i.bytes)) = some (some (.agg #[.int .i64 0, .int .i64 0, .string ⟨#[]⟩, .slice none 0 0]), 4, 56) := by kernel_rfl

set_option maxRecDepth 100000 in
theorem list_any (d : Nat) (l : List Itm) (ao : Option Addr) (cap : Nat) (w : World) (B : Nat) (h : RIts d B w ao cap l) (hB : B ≤ w.heap.size) :
    Calls Try.prog 31 #[.slice ao l.length cap] w fun e w' => ∃ ao' cap', e = .returned (.agg #[.int .i64 2, .int .i64 0, .string ⟨#[]⟩, .slice ao' l.length cap']) ∧ RIts d w'.heap.size w' ao' cap' l ∧ Below w.heap.size w w' := by
  obtain ⟨i0, hi, hz0, hz1, hz2⟩ := info_parts infoI
  obtain ⟨ps, rfl, hps, hsla⟩ := h.pairs
  have hlen := h.len
  rw [List.length_map] at hlen ⊢
  go_enter Try.func31, Try.ntmps31
  go_wp2_with (at_builtin; refine Shut.out ?stop)
  unfold Shut
  obtain ⟨cr, hcr⟩ : ∃ cr, cr = w.heap.size := ⟨_, rfl⟩
  have hbx1 : Blk (w.alloc (.cells #[.int .i64 0, .int .i64 0, .string ⟨#[]⟩, .slice none 0 0] 50)) w.heap.size #[.int .i64 0, .int .i64 0, .string ⟨#[]⟩, .slice none 0 0] 50 := Blk.new _ _ _
  have hbel1 : Below w.heap.size w (w.alloc (.cells #[.int .i64 0, .int .i64 0, .string ⟨#[]⟩, .slice none 0 0] 50)) := (by repeat (first | exact Below.refl _ _ | refine below_drewN ?_ _ | refine Below.drew ?_ | (refine Below.alloc ?_ (by simp; try omega) _)))
  have hsla1 : SlA w.heap.size 4 (fun _ cs p => cs = encP p) (w.alloc (.cells #[.int .i64 0, .int .i64 0, .string ⟨#[]⟩, .slice none 0 0] 50)) ao cap ps := hsla.imp (hbel1.mono hB) hB (fun cs x _ h => h)
  rw [← hcr] at hbx1 ⊢
  refine wpList_app_sla (xs := []) (base := cr + 1) _ rfl _ _ 48 rfl Try.underlying48 hi hz0 hz1 hz2 rfl (by decide) rfl (OwnL.nil _ _ _ _ _) rfl hsla1 encP_len encP_one (by unfold maxLen; simp; omega) (by simp; omega) (by simp; omega) (fun v' w3 hown3 hgr3 => ?_)
  have hbx3 := blk_grown hgr3 hbx1 (fun h => by simp [Act.eval, Value.ownBlock] at h)
  have hbel3 := hbel1.grown hgr3 hbel1.size (fun g hg => by simp [Act.eval, Value.ownBlock] at hg)
  obtain ⟨ao3, cap3, rfl, _, _, _⟩ := hown3.slice
  have f0 := hbx3.frozen 0
  have f1 := hbx3.frozen 1
  have f2 := hbx3.frozen 2
  have f3 := hbx3.frozen 3
  have q0 : w3.cell? ⟨cr, 0, none⟩ = some (.int .i64 0) := hbx3.cellAt rfl
  have q1 : w3.cell? ⟨cr, 1, none⟩ = some (.int .i64 0) := hbx3.cellAt rfl
  have q2 : w3.cell? ⟨cr, 2, none⟩ = some (.string ⟨#[]⟩) := hbx3.cellAt rfl
  have q3 : w3.cell? ⟨cr, 3, none⟩ = some (.slice none 0 0) := hbx3.cellAt rfl
  replace hcr := Lib.hid hcr
  go_wp2_with fail
  obtain ⟨w7, hw7⟩ : ∃ w7, w7 = (((w3.setCell ⟨cr, 0, none⟩ (.int .i64 2)).setCell ⟨cr, 1, none⟩ (.int .i64 0)).setCell ⟨cr, 2, none⟩ (.string ⟨#[]⟩)).setCell ⟨cr, 3, none⟩ (.slice ao3 ps.length cap3) := ⟨_, rfl⟩
  have hb7 : Blk w7 cr #[.int .i64 2, .int .i64 0, .string ⟨#[]⟩, .slice ao3 ps.length cap3] 50 := by rw [hw7]; exact (((hbx3.set 0 _).set 1 _).set 2 _).set 3 _
  have hch : Chg (fun k => k = cr) w3 w7 := by rw [hw7]; exact ((((Chg.refl (fun k => k = cr) w3).setCell ⟨cr, 0, none⟩ _ (fun _ => rfl)).setCell ⟨cr, 1, none⟩ _ (fun _ => rfl)).setCell ⟨cr, 2, none⟩ _ (fun _ => rfl)).setCell ⟨cr, 3, none⟩ _ (fun _ => rfl)
  have hbel7 : Below w.heap.size w w7 := by
    rw [hw7]
    have := hcr.out
    exact (((hbel3.setCell (p := ⟨cr, 0, none⟩) (by simp; omega) _).setCell (p := ⟨cr, 1, none⟩) (by simp; omega) _).setCell (p := ⟨cr, 2, none⟩) (by simp; omega) _).setCell (p := ⟨cr, 3, none⟩) (by simp; omega) _
  rw [← hw7]
  refine bodyPost_ret (results_cell_row rfl _ _ cr 50 _ (0, 0) _ rfl hb7 Try.underlying50 rfl (by kernel_rfl)) rfl ?_
  have hown7 : OwnL encP w7 (cr + 1) 50 4 (.slice ao3 ps.length cap3) ps := hown3.chg hch (fun g hg h => by have := (hown3.lt g hg).1; omega)
  obtain ⟨ao4, cap4, he, hri⟩ := RIts.of_own hown7 (d := d) (fun p hp => RIt.imp (hbel7.mono hB) (Nat.le_trans hB hbel7.size) (hps p hp)) hlen
  cases he
  exact ⟨ao3, cap3, rfl, hri, hbel7⟩
end Go.Proofs.Ytcigbobihkkdiaa
