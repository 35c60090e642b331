/- Wire: List, where the lists' blocks are known. -/
import Derived.Test.YtcigbobihkkdiaaWl
import Derived.Test.YtcigbobihkkdiaaWs
namespace Go.Proofs.Ytcigbobihkkdiaa
open Go.RowKit
set_option linter.unusedVariables false

theorem RItsP.pairs {d B : Nat} {D : Nat → Prop} {w : World} {ao : Option Addr} {cap : Nat} {l : List Itm} (h : RItsP d D w ao cap l) (hD : ∀ b, D b → b < B) :
    ∃ ps : List PIt, ps.map (·.x) = l ∧ (∀ p ∈ ps, RItP d D w (encP p) p.x) ∧ SlA B 4 (fun _ cs p => cs = encP p) w ao cap ps := by
  obtain ⟨⟨h1, h2, h3, h4⟩, h5⟩ := h
  by_cases hne : l = []
  · subst hne
    exact ⟨[], rfl, by simp, h1, h2, h3, by simp⟩
  · obtain ⟨b, rfl, hb, _, hel⟩ := h4 hne
    have hall : ∀ i, i < l.length → ∃ p : PIt, l[i]? = some p.x ∧ RItP d D w (encP p) p.x ∧ ∀ j, j < 4 → w.cell? ⟨b, 0 + (i * 4 + j), none⟩ = (encP p)[j]? := by
      intro i hi
      obtain ⟨cs, hcl, hc, hr⟩ := hel i hi
      obtain ⟨p, hp, rfl⟩ := hr.pit
      exact ⟨p, by rw [List.getElem?_eq_getElem hi, hp], by rw [hp]; exact hr, fun j hj => by rw [Nat.zero_add]; exact hc j hj⟩
    obtain ⟨ps, hpl, hps⟩ := list_of_all hall
    refine ⟨ps, ?_, ?_, by omega, h2, h3, fun _ => ⟨b, 0, rfl, hD b hb, fun i hi => ⟨encP ps[i], rfl, (hps i hi).2.2, rfl⟩⟩⟩
    · apply List.ext_getElem?
      intro i
      by_cases hi : i < ps.length
      · rw [(hps i hi).1]; simp [hi]
      · rw [List.getElem?_eq_none (by simp; omega), List.getElem?_eq_none (by omega)]
    · intro p hp
      obtain ⟨i, hi, rfl⟩ := List.mem_iff_getElem.1 hp
      exact (hps i hi).2.1

set_option maxRecDepth 100000 in
theorem list_anyP (d : Nat) (D : Nat → Prop) (l : List Itm) (ao : Option Addr) (cap : Nat) (w : World) (h : RItsP d D w ao cap l) (hD : ∀ b, D b → b < w.heap.size) :
    Calls Try.prog 31 #[.slice ao l.length cap] w fun e w' => ∃ ao' cap', e = .returned (.agg #[.int .i64 2, .int .i64 0, .string ⟨#[]⟩, .slice ao' l.length cap']) ∧ RItsP d (fun b => D b ∨ (w.heap.size ≤ b ∧ b < w'.heap.size)) w' ao' cap' l ∧ Below w.heap.size w w' := by
  obtain ⟨i0, hi, hz0, hz1, hz2⟩ := info_parts infoI
  obtain ⟨ps, rfl, hps, hsla⟩ := h.pairs (B := w.heap.size) hD
  have hlen := h.2
  rw [List.length_map] at hlen ⊢
  go_enter Try.func31, Try.ntmps31
  go_wp2_with (at_builtin; refine Shut.out ?stop)
  unfold Shut
  obtain ⟨cr, hcr⟩ : ∃ cr, cr = w.heap.size := ⟨_, rfl⟩
  have hbx1 : Blk (w.alloc (.cells #[.int .i64 0, .int .i64 0, .string ⟨#[]⟩, .slice none 0 0] 50)) w.heap.size #[.int .i64 0, .int .i64 0, .string ⟨#[]⟩, .slice none 0 0] 50 := Blk.new _ _ _
  have hbel1 : Below w.heap.size w (w.alloc (.cells #[.int .i64 0, .int .i64 0, .string ⟨#[]⟩, .slice none 0 0] 50)) := (by repeat (first | exact Below.refl _ _ | refine below_drewN ?_ _ | refine Below.drew ?_ | (refine Below.alloc ?_ (by simp; try omega) _)))
  have hsla1 : SlA w.heap.size 4 (fun _ cs p => cs = encP p) (w.alloc (.cells #[.int .i64 0, .int .i64 0, .string ⟨#[]⟩, .slice none 0 0] 50)) ao cap ps := hsla.imp hbel1 (Nat.le_refl _) (fun cs x _ h => h)
  rw [← hcr] at hbx1 ⊢
  refine wpList_app_sla (xs := []) (base := cr + 1) _ rfl _ _ 48 rfl Try.underlying48 hi hz0 hz1 hz2 rfl (by decide) rfl (OwnL.nil _ _ _ _ _) rfl hsla1 encP_len encP_one (by unfold maxLen; simp; omega) (by simp; omega) (by simp; omega) (fun v' w3 hown3 hgr3 => ?_)
  have hbx3 := blk_grown hgr3 hbx1 (fun h => by simp [Act.eval, Value.ownBlock] at h)
  have hbel3 := hbel1.grown hgr3 hbel1.size (fun g hg => by simp [Act.eval, Value.ownBlock] at hg)
  obtain ⟨ao3, cap3, rfl, _, _, _⟩ := hown3.slice
  have f0 := hbx3.frozen 0
  have f1 := hbx3.frozen 1
  have f2 := hbx3.frozen 2
  have f3 := hbx3.frozen 3
  have q0 : w3.cell? ⟨cr, 0, none⟩ = some (.int .i64 0) := hbx3.cellAt rfl
  have q1 : w3.cell? ⟨cr, 1, none⟩ = some (.int .i64 0) := hbx3.cellAt rfl
  have q2 : w3.cell? ⟨cr, 2, none⟩ = some (.string ⟨#[]⟩) := hbx3.cellAt rfl
  have q3 : w3.cell? ⟨cr, 3, none⟩ = some (.slice none 0 0) := hbx3.cellAt rfl
  replace hcr := Lib.hid hcr
  go_wp2_with fail
  obtain ⟨w7, hw7⟩ : ∃ w7, w7 = (((w3.setCell ⟨cr, 0, none⟩ (.int .i64 2)).setCell ⟨cr, 1, none⟩ (.int .i64 0)).setCell ⟨cr, 2, none⟩ (.string ⟨#[]⟩)).setCell ⟨cr, 3, none⟩ (.slice ao3 ps.length cap3) := ⟨_, rfl⟩
  have hb7 : Blk w7 cr #[.int .i64 2, .int .i64 0, .string ⟨#[]⟩, .slice ao3 ps.length cap3] 50 := by rw [hw7]; exact (((hbx3.set 0 _).set 1 _).set 2 _).set 3 _
  have hch : Chg (fun k => k = cr) w3 w7 := by rw [hw7]; exact ((((Chg.refl (fun k => k = cr) w3).setCell ⟨cr, 0, none⟩ _ (fun _ => rfl)).setCell ⟨cr, 1, none⟩ _ (fun _ => rfl)).setCell ⟨cr, 2, none⟩ _ (fun _ => rfl)).setCell ⟨cr, 3, none⟩ _ (fun _ => rfl)
  have hbel7 : Below w.heap.size w w7 := by
    rw [hw7]
    have := hcr.out
    exact (((hbel3.setCell (p := ⟨cr, 0, none⟩) (by simp; omega) _).setCell (p := ⟨cr, 1, none⟩) (by simp; omega) _).setCell (p := ⟨cr, 2, none⟩) (by simp; omega) _).setCell (p := ⟨cr, 3, none⟩) (by simp; omega) _
  rw [← hw7]
  refine bodyPost_ret (results_cell_row rfl _ _ cr 50 _ (0, 0) _ rfl hb7 Try.underlying50 rfl (by kernel_rfl)) rfl ?_
  have hown7 : OwnL encP w7 (cr + 1) 50 4 (.slice ao3 ps.length cap3) ps := hown3.chg hch (fun g hg h => by have := (hown3.lt g hg).1; omega)
  obtain ⟨ao4, cap4, he, hri⟩ := RItsP.of_own hown7 (d := d) (D := fun b => D b ∨ (w.heap.size ≤ b ∧ b < w7.heap.size)) (fun p hp => (hps p hp).imp fun b hb => ⟨.inl hb, hbel7.block b (hD b hb)⟩) (fun g hg => .inr ⟨by have := (hown7.lt g hg).1; have := hcr.out; omega, (hown7.lt g hg).2⟩) hlen
  cases he
  exact ⟨ao3, cap3, rfl, hri, hbel7⟩

theorem elems_grow3 {d : Nat} {w0 w6 w7 : World} {lo g cap7 : Nat} {v : Value} {ps : List PIt} {p : PIt} (hgr : Grew w6 v w7 (.slice (some ⟨g, 0, none⟩) (ps.length + 1) cap7)) (hlo : ∀ b, v.ownBlock = some b → b < w0.heap.size) (hl0 : lo ≤ w0.heap.size)
    (hch : Below w0.heap.size w0 w6)
    (hels : ∀ q ∈ ps, RItP d (fun b => lo ≤ b ∧ b < w0.heap.size ∧ v.ownBlock ≠ some b) w0 (encP q) q.x)
    (hit : RItP d (fun b => w0.heap.size ≤ b ∧ b < w6.heap.size) w6 (encP p) p.x) :
    ∀ q ∈ ps ++ [p], RItP d (fun b => lo ≤ b ∧ b < w7.heap.size ∧ (Value.slice (some ⟨g, 0, none⟩) (ps.length + 1) cap7).ownBlock ≠ some b) w7 (encP q) q.x := by
  have hs6 := hch.size
  have hs7 := hgr.grown.size
  have hplace : ∀ b, b < w6.heap.size → v.ownBlock ≠ some b → (Value.slice (some ⟨g, 0, none⟩) (ps.length + 1) cap7).ownBlock ≠ some b := fun b hb hbo h => by
    rcases hgr.place with e | ⟨g', e, hg'⟩
    · rw [e] at h; exact hbo h
    · rw [e] at h; cases h; omega
  intro q hq
  rcases List.mem_append.1 hq with hq | hq
  · refine (hels q hq).imp fun b hb => ⟨⟨hb.1, by omega, hplace b (by omega) hb.2.2⟩, ?_⟩
    rw [hgr.grown.block b (by omega) (Ne.symm hb.2.2)]
    exact hch.block b hb.2.1
  · obtain rfl : q = p := by simpa using hq
    have hbo : ∀ b, w0.heap.size ≤ b → v.ownBlock ≠ some b := fun b hb h => by have := hlo b h; omega
    exact hit.imp fun b hb => ⟨⟨by omega, by omega, hplace b hb.2 (hbo b hb.1)⟩, hgr.grown.block b hb.2 (Ne.symm (hbo b hb.1))⟩


theorem RItsP.of_cells {d b : Nat} {D : Nat → Prop} {w : World} {ps : List PIt} {cells : Array Value} {T : TypeId} (h : Blk w b cells T) (hb : D b) (hc : cells = (ps.flatMap encP).toArray) (hE : ∀ p ∈ ps, RItP d D w (encP p) p.x) (hl : ps.length * 56 ≤ 140737488355328) :
    RItsP d D w (some ⟨b, 0, none⟩) ps.length (ps.map (·.x)) := by
  refine ⟨⟨by simp, by unfold maxLen; omega, by simp, fun _ => ⟨b, rfl, hb, ⟨cells, T, h, ?_⟩, fun i hi => ?_⟩⟩, by simpa using hl⟩
  · rw [hc, List.length_map]
    have := flat_len encP_len ps
    simp only [List.size_toArray]
    omega
  · have hi2 : i < ps.length := by simpa using hi
    refine ⟨encP ps[i], rfl, fun j hj => ?_, by simpa using hE _ (List.getElem_mem hi2)⟩
    rw [h.cell, hc, ← flat_at encP_len ps i j hi2 hj]
    simp
theorem RItP.one0 {d : Nat} {D : Nat → Prop} {w : World} {n : Int} (h : (Lit.int .i64 n).wf = true) : RItP (d + 1) D w (encP ⟨.mk 0 n ⟨#[]⟩ [], none, 0⟩) (.mk 0 n ⟨#[]⟩ []) := RItP.mk' rfl h (by show (⟨#[]⟩ : ByteArray).size ≤ 140737488351232; decide) (RItsP.nil _ _ _)
theorem RItP.one1 {d : Nat} {D : Nat → Prop} {w : World} {s : ByteArray} (h : s.size ≤ 140737488351232) : RItP (d + 1) D w (encP ⟨.mk 1 0 s [], none, 0⟩) (.mk 1 0 s []) := RItP.mk' rfl rfl h (RItsP.nil _ _ _)
theorem RItP.one2 {d : Nat} {D : Nat → Prop} {w : World} {ao : Option Addr} {cap : Nat} {l : List Itm} (h : RItsP d D w ao cap l) : RItP (d + 1) D w (encP ⟨.mk 2 0 ⟨#[]⟩ l, ao, cap⟩) (.mk 2 0 ⟨#[]⟩ l) := RItP.mk' rfl rfl (by show (⟨#[]⟩ : ByteArray).size ≤ 140737488351232; decide) h
/-- From lo on. -/
theorem RItsP.up {d lo : Nat} {w w' : World} {ao : Option Addr} {cap : Nat} {l : List Itm} (h : RItsP d (fun b => lo ≤ b ∧ b < w.heap.size) w ao cap l) (hb : Below w.heap.size w w') : RItsP d (fun b => lo ≤ b ∧ b < w'.heap.size) w' ao cap l :=
  h.imp fun b hb' => ⟨⟨hb'.1, Nat.lt_of_lt_of_le hb'.2 hb.size⟩, hb.block b hb'.2⟩
theorem list_anyU (d lo : Nat) (l : List Itm) (ao : Option Addr) (cap : Nat) (w : World) (h : RItsP d (fun b => lo ≤ b ∧ b < w.heap.size) w ao cap l) (hlo : lo ≤ w.heap.size) :
    Calls Try.prog 31 #[.slice ao l.length cap] w fun e w' => ∃ ao' cap', e = .returned (.agg #[.int .i64 2, .int .i64 0, .string ⟨#[]⟩, .slice ao' l.length cap']) ∧ RItsP d (fun b => lo ≤ b ∧ b < w'.heap.size) w' ao' cap' l ∧ Below w.heap.size w w' :=
  (list_anyP d _ l ao cap w h (fun b hb => hb.2)).mono fun e w' ⟨ao', cap', he, hr, hb⟩ => ⟨ao', cap', he, hr.imp fun b hb' => ⟨by have := hb.size; rcases hb' with h | h <;> omega, rfl⟩, hb⟩
end Go.Proofs.Ytcigbobihkkdiaa
