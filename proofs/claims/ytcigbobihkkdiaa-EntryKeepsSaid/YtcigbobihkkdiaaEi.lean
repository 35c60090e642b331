/- Entry: what Decode takes. -/
import Derived.Test.YtcigbobihkkdiaaEh
import Derived.Test.YtcigbobihkkdiaaBaseR
namespace Go.Proofs.Ytcigbobihkkdiaa
open Go.RowKit
set_option linter.unusedVariables false
set_option linter.unusedSimpArgs false

/-- What take answers. -/
def TakeR (d : Nat) (D : Nat → Prop) (x : Itm) (b : Bool) (wb : Nat) (w : World) (e : Ending) (w' : World) : Prop :=
  ∃ p : PIt, p.x = x ∧ e = .returned (.agg #[.int .i64 x.kind, .int .i64 x.num, .string x.txt, .slice p.ao x.lst.length p.cap]) ∧ (Lit.int .i64 x.num).wf = true ∧ x.txt.size ≤ 140737488351232 ∧ RItsP d D w' p.ao p.cap x.lst ∧
    Chg (fun k => k = wb) w w' ∧ Blk w' wb #[.bool b] 4

theorem RItsP.at {d : Nat} {D : Nat → Prop} {w : World} {b cap i : Nat} {l : List Itm} (h : RItsP (d + 1) D w (some ⟨b, 0, none⟩) cap l) (hi : i < l.length) {x : Itm} (hx : l[i] = x) :
    ∃ ao c, w.cell? ⟨b, i * 4, none⟩ = some (.int .i64 x.kind) ∧ w.cell? ⟨b, i * 4 + 1, none⟩ = some (.int .i64 x.num) ∧ w.cell? ⟨b, i * 4 + 2, none⟩ = some (.string x.txt) ∧ w.cell? ⟨b, i * 4 + 3, none⟩ = some (.slice ao x.lst.length c) ∧
      (Lit.int .i64 x.kind).wf = true ∧ (Lit.int .i64 x.num).wf = true ∧ x.txt.size ≤ 140737488351232 ∧ RItsP d D w ao c x.lst := by
  obtain ⟨b', hb', _, _, hel⟩ := h.1.2.2.2 (fun h0 => by rw [h0] at hi; simp at hi)
  cases hb'
  obtain ⟨cs, _, hc, hr⟩ := hel i hi
  rw [hx] at hr
  obtain ⟨k, n, s, r⟩ := x
  obtain ⟨ao, c, rfl, h1, h2, h3, h4, h5⟩ := hr
  have g0 := hc 0 (by omega)
  have g1 := hc 1 (by omega)
  have g2 := hc 2 (by omega)
  have g3 := hc 3 (by omega)
  exact ⟨ao, c, g0, g1, g2, g3, h1, h2, h3, h5, h4⟩
theorem RItsP.addr {d : Nat} {D : Nat → Prop} {w : World} {ao : Option Addr} {cap : Nat} {l : List Itm} (h : RItsP d D w ao cap l) (hne : 0 < l.length) : ∃ b, ao = some ⟨b, 0, none⟩ ∧ D b := by
  obtain ⟨b, hb, hD, _⟩ := h.1.2.2.2 (fun h0 => by rw [h0] at hne; simp at hne)
  exact ⟨b, hb, hD⟩

set_option maxRecDepth 100000 in
set_option maxHeartbeats 2000000 in
theorem take_any (d : Nat) (D : Nat → Prop) (l : List Itm) (ao : Option Addr) (cap i : Nat) (kd : Int) (b : Bool) (wb : Nat) (w : World) (h : RItsP (d + 1) D w ao cap l) (hD : ∀ k, D k → k < w.heap.size) (hb : Blk w wb #[.bool b] 4) (hi : i ≤ 100) :
    Calls Try.prog 25 #[.slice ao l.length cap, .int .i64 i, .int .i64 kd, .pointer (some ⟨wb, 0, none⟩)] w (TakeR d D (tkI l i kd) (b || !tkB l i kd) wb w) := by
  have hlen := h.2
  obtain ⟨n, hn⟩ : ∃ n, n = l.length := ⟨_, rfl⟩
  rw [← hn] at hlen ⊢
  replace hn := Lib.hid hn
  go_enter Try.func25, Try.ntmps25
  go_upto_region 1 with fail
  refine Code.wp_world ?_
  intro w1 hw1
  obtain ⟨cr, hcr⟩ : ∃ c, c = w.heap.size := ⟨_, rfl⟩
  have hb1 : Below w.heap.size w w1 := by rw [hw1]; exact below_alloc1 w _
  have hC1 : Blk w1 cr #[.int .i64 0, .int .i64 0, .string ⟨#[]⟩, .slice none 0 0] 50 := by rw [hw1, hcr]; exact Blk.new _ _ _
  have hW1 := hb.below hb1 hb.lt
  have hwc : wb ≠ cr := by have := hb.lt; omega
  rw [← hcr]
  clear hw1
  have hc1 : Chg (fun k => k = wb) w w1 := (Chg.of_below hb1).mono (fun k h1 h2 => absurd h2 (by omega))
  have hcn : ¬ cr < w.heap.size := by omega
  replace hcr := Lib.hid hcr
  have f0 := hC1.frozen 0
  have f1 := hC1.frozen 1
  have f2 := hC1.frozen 2
  have f3 := hC1.frozen 3
  have fw := hW1.frozen 0
  have cw : w1.cell? ⟨wb, 0, none⟩ = some (.bool b) := hW1.cellAt rfl
  obtain ⟨q0, q1, q2, q3⟩ := blk4 hC1
  by_cases hin : i < n
  · have hix : i < l.length := by rw [← hn.out]; exact hin
    obtain ⟨bb, rfl, hDb⟩ := h.addr (by omega)
    obtain ⟨x, hx⟩ : ∃ x, l[i] = x := ⟨_, rfl⟩
    obtain ⟨ao2, cap2, e0, e1, e2, e3, z0, z1, z2, hl2⟩ := h.at hix hx
    have hts := tk_some (k := kd) hix
    rw [hx] at hts
    have hbw : bb < w.heap.size := hD bb hDb
    replace e0 := (hb1.cell (p := ⟨bb, i * 4, none⟩) hbw).trans e0
    replace e1 := (hb1.cell (p := ⟨bb, i * 4 + 1, none⟩) hbw).trans e1
    replace e2 := (hb1.cell (p := ⟨bb, i * 4 + 2, none⟩) hbw).trans e2
    replace e3 := (hb1.cell (p := ⟨bb, i * 4 + 3, none⟩) hbw).trans e3
    by_cases hk : x.kind = kd
    · have ek : (x.kind != kd) = false := by simpa using hk
      rw [if_pos hk, decide_eq_true hk] at hts
      rw [hts.1, hts.2]
      clear h hx
      go_wp2_with fail
      refine bodyPost_ret (results_cell_row rfl _ _ cr 50 _ (0, 0) _ rfl ((((hC1.set 0 _).set 1 _).set 2 _).set 3 _) Try.underlying50 rfl (by kernel_rfl)) rfl ?_
      have hbw2 : Below w.heap.size w ((((w1.setCell ⟨cr, 0, none⟩ (.int .i64 kd)).setCell ⟨cr, 1, none⟩ (.int .i64 x.num)).setCell ⟨cr, 2, none⟩ (.string x.txt)).setCell ⟨cr, 3, none⟩ (.slice ao2 x.lst.length cap2)) :=
        (((hb1.setCell (p := ⟨cr, 0, none⟩) (Nat.le_of_eq hcr.out.symm) _).setCell (p := ⟨cr, 1, none⟩) (Nat.le_of_eq hcr.out.symm) _).setCell (p := ⟨cr, 2, none⟩) (Nat.le_of_eq hcr.out.symm) _).setCell (p := ⟨cr, 3, none⟩) (Nat.le_of_eq hcr.out.symm) _
      rw [hts.1, hts.2]
      refine ⟨⟨x, ao2, cap2⟩, rfl, ?_, z1, z2, hl2.imp fun k hk => ⟨hk, hbw2.block k (hD k hk)⟩, (Chg.of_below hbw2).mono (fun k h1 h2 => absurd h2 (by omega)), hb.below hbw2 hb.lt |> fun h => by simpa using h⟩
      rw [hk]
      rfl
    · have ek : (x.kind != kd) = true := by simpa using hk
      rw [if_neg hk, decide_eq_false hk] at hts
      rw [hts.1, hts.2]
      clear h hx
      go_wp2_with fail
      refine bodyPost_ret (results_cell_row rfl _ _ cr 50 _ (0, 0) _ rfl (((((hC1.set_other (p := ⟨wb, 0, none⟩) (Ne.symm hwc) _).set 0 _).set 1 _).set 2 _).set 3 _) Try.underlying50 rfl (by kernel_rfl)) rfl ?_
      rw [hts.1, hts.2]
      refine ⟨⟨nilI, none, 0⟩, rfl, rfl, rfl, by decide, RItsP.nil _ _ _, ?_, ?_⟩
      · exact (by repeat (first | with_reducible assumption | with_reducible exact Chg.refl _ _ | with_reducible refine Chg.drew ?_ | with_reducible refine Chg.drewN ?_ _ | (with_reducible refine Chg.alloc ?_ _) | (refine Chg.setCell ?_ _ _ (by first | (intro _; rfl) | (intro h; first | exact absurd h (by assumption) | exact absurd h (by omega) | exact absurd h (by simp; omega))))))
      · have := ((((hW1.set 0 (.bool true)).set_other (p := ⟨cr, 0, none⟩) hwc (.int .i64 0)).set_other (p := ⟨cr, 1, none⟩) hwc (.int .i64 0)).set_other (p := ⟨cr, 2, none⟩) hwc (.string ⟨#[]⟩)).set_other (p := ⟨cr, 3, none⟩) hwc (.slice none 0 0)
        simpa using this
  · have htn := tk_none (l := l) (i := i) (k := kd) (by rw [← hn.out]; omega)
    rw [htn.1, htn.2]
    clear h
    go_wp2_with fail
    refine bodyPost_ret (results_cell_row rfl _ _ cr 50 _ (0, 0) _ rfl (((((hC1.set_other (p := ⟨wb, 0, none⟩) (Ne.symm hwc) _).set 0 _).set 1 _).set 2 _).set 3 _) Try.underlying50 rfl (by kernel_rfl)) rfl ?_
    rw [htn.1, htn.2]
    refine ⟨⟨nilI, none, 0⟩, rfl, rfl, rfl, by decide, RItsP.nil _ _ _, ?_, ?_⟩
    · exact (by repeat (first | with_reducible assumption | with_reducible exact Chg.refl _ _ | with_reducible refine Chg.drew ?_ | with_reducible refine Chg.drewN ?_ _ | (with_reducible refine Chg.alloc ?_ _) | (refine Chg.setCell ?_ _ _ (by first | (intro _; rfl) | (intro h; first | exact absurd h (by assumption) | exact absurd h (by omega) | exact absurd h (by simp; omega))))))
    · have := ((((hW1.set 0 (.bool true)).set_other (p := ⟨cr, 0, none⟩) hwc (.int .i64 0)).set_other (p := ⟨cr, 1, none⟩) hwc (.int .i64 0)).set_other (p := ⟨cr, 2, none⟩) hwc (.string ⟨#[]⟩)).set_other (p := ⟨cr, 3, none⟩) hwc (.slice none 0 0)
      simpa using this
end Go.Proofs.Ytcigbobihkkdiaa
