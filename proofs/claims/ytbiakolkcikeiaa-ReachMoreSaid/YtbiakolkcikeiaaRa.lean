/- Reach: what a right pointstamp is: good, Good, the reference's Good. -/
import Derived.Test.YtbiakolkcikeiaaGs
import Derived.Test.YtbiakolkcikeiaaGk
import Derived.Test.YtbiakolkcikeiaaTyReach
import Derived.Test.YtbiakolkcikeiaaSb
namespace Go.Proofs.Ytbiakolkcikeiaa
open Go.RowKit
set_option linter.unusedVariables false
set_option linter.unusedSimpArgs false

def opAt (ops : List TOp) (l : Int) : TOp := (ops[l.toNat]?).getD ⟨0, [], 0, 0, 0, 0, 0⟩
def goodS (ops : List TOp) (l e r : Int) : Bool := decide (0 ≤ l ∧ l < ops.length) && goodT ⟨e, r⟩ && (decide (r = 0) || (decide ((opAt ops l).fKind = 7) && decide (r < (opAt ops l).fRounds)))
theorem opAt_get {ops : List TOp} {k : Nat} {o : TOp} (h : ops[k]? = some o) : opAt ops (k : Int) = o := by
  unfold opAt
  rw [Int.toNat_natCast, h]
  rfl
theorem goodS_out {ops : List TOp} {l e r : Int} (h : ¬ (0 ≤ l ∧ l < ops.length)) : goodS ops l e r = false := by
  unfold goodS
  rw [decide_eq_false h, Bool.false_and, Bool.false_and]
theorem goodS_bad {ops : List TOp} {l e r : Int} (h : goodT ⟨e, r⟩ = false) : goodS ops l e r = false := by
  unfold goodS
  rw [h, Bool.and_false, Bool.false_and]
theorem goodS_at {ops : List TOp} {k : Nat} {e r : Int} {o : TOp} (h : ops[k]? = some o) (hg : goodT ⟨e, r⟩ = true) : goodS ops k e r = (decide (r = 0) || (decide (o.fKind = 7) && decide (r < o.fRounds))) := by
  have hk := (List.getElem?_eq_some_iff.1 h).1
  unfold goodS
  rw [opAt_get h, hg, decide_eq_true (by omega), Bool.true_and, Bool.true_and]
theorem goodT_nn {e r : Int} (h : goodT ⟨e, r⟩ = true) : 0 ≤ e ∧ 0 ≤ r := by unfold goodT at h; exact of_decide_eq_true h

set_option maxRecDepth 100000 in
set_option maxHeartbeats 2000000 in
theorem pgood_any (ops : List TOp) (cap : Nat) (ao : Option Addr) (l e r : Int) (B : Nat) (w : World) (hB : B ≤ w.heap.size) (hx : SlA B 7 (ROp B) w ao cap ops) :
    Calls Try.prog 24 #[.agg #[.slice ao ops.length cap], .agg #[.int .i64 l, .int .i64 e, .int .i64 r]] w fun x w' => x = .returned (.bool (goodS ops l e r)) ∧ Below w.heap.size w w' := by
  have hlen := hx.len
  have hgd := fun W => good_any e r W
  obtain ⟨n, hn⟩ : ∃ n, n = ops.length := ⟨_, rfl⟩
  by_cases hin : 0 ≤ l ∧ l < ops.length
  · obtain ⟨k, rfl⟩ : ∃ k : Nat, l = k := ⟨l.toNat, by omega⟩
    have hk : k < ops.length := by omega
    obtain ⟨gb, goff, rfl, hgb, hq⟩ := hx.addr (by omega)
    clear hq
    obtain ⟨o, ho⟩ : ∃ o, ops[k] = o := ⟨_, rfl⟩
    have hok : ops[k]? = some o := by rw [List.getElem?_eq_getElem hk, ho]
    obtain ⟨ao1, cap1, e0, e1, e2, e3, e4, e5, e6, z0, hin1, z2, z3, z4, z5, z6⟩ := ROp.at hx hk ho
    have hgw : gb < w.heap.size := by omega
    rw [← hn] at hk hin hlen ⊢
    have d1 : decide ((k : Int) < 0) = false := by simp
    have d2 : decide ((n : Int) ≤ (k : Int)) = false := by simp; omega
    have d3 : decide (n ≤ k) = false := by simp; omega
    replace hn := Lib.hid hn
    cases hg : goodT ⟨e, r⟩ with
    | false =>
      rw [goodS_bad hg]
      rw [hg] at hgd
      clear hok ho hin1 hg
      go_enter Try.func24, Try.ntmps24
      go_wp2_with fail
      refine (hgd _).mono ?_
      rintro x w3 ⟨rfl, b3⟩
      have hbel : Below w.heap.size w w3 := (by repeat (first | exact Below.refl _ _ | assumption | refine below_drewN ?_ _ | refine Below.drew ?_ | (refine Below.setCell ?_ (by first | omega | (simp; omega) | simp) _) | (refine Below.alloc ?_ (by first | omega | (simp; omega) | simp) _) | (refine Below.trans ?_ (Below.mono (by assumption) (by first | omega | (simp; omega) | simp)))))
      go_wp2_with fail
      go_ret
      exact ⟨rfl, hbel⟩
    | true =>
      rw [goodS_at hok hg]
      rw [hg] at hgd
      have hnn := goodT_nn hg
      obtain ⟨il, hil⟩ : ∃ il, il = o.fIn.length := ⟨_, rfl⟩
      rw [← hil] at e1
      clear hok ho hin1 hg hil
      generalize o.fKind = ki at e0 ⊢
      generalize o.fRounds = ro at e4 ⊢
      generalize o.fArg = q2 at e2
      generalize o.fNum = q3 at e3
      generalize o.fTest = q5 at e5
      generalize o.fLim = q6 at e6
      have d4 : decide (r = 0) = (r == 0) := by by_cases h : r = 0 <;> simp [h]
      have d5 : decide (ki = 7) = (ki == 7) := by by_cases h : ki = 7 <;> simp [h]
      rw [d4, d5]
      clear d4 d5
      have hl2 : ∀ W : World, Below w.heap.size w W → W.cell? ⟨gb, goff + k * 7, none⟩ = some (.int .i64 ki) ∧ W.cell? ⟨gb, goff + k * 7 + 1, none⟩ = some (.slice ao1 il cap1) ∧ W.cell? ⟨gb, goff + k * 7 + 2, none⟩ = some (.int .i64 q2) ∧ W.cell? ⟨gb, goff + k * 7 + 3, none⟩ = some (.int .u32 q3) ∧ W.cell? ⟨gb, goff + k * 7 + 4, none⟩ = some (.int .i64 ro) ∧ W.cell? ⟨gb, goff + k * 7 + 5, none⟩ = some (.int .i64 q5) ∧ W.cell? ⟨gb, goff + k * 7 + 6, none⟩ = some (.int .u32 q6) := fun W hb => by
        have hc := fun o : Nat => hb.cell (p := ⟨gb, o, none⟩) hgw
        exact ⟨by rw [hc]; exact e0, by rw [hc]; exact e1, by rw [hc]; exact e2, by rw [hc]; exact e3, by rw [hc]; exact e4, by rw [hc]; exact e5, by rw [hc]; exact e6⟩
      replace hl2 := Lib.hid hl2
      go_enter Try.func24, Try.ntmps24
      go_wp2_with fail
      refine (hgd _).mono ?_
      rintro x w3 ⟨rfl, b3⟩
      have hbel : Below w.heap.size w w3 := (by repeat (first | exact Below.refl _ _ | assumption | refine below_drewN ?_ _ | refine Below.drew ?_ | (refine Below.setCell ?_ (by first | omega | (simp; omega) | simp) _) | (refine Below.alloc ?_ (by first | omega | (simp; omega) | simp) _) | (refine Below.trans ?_ (Below.mono (by assumption) (by first | omega | (simp; omega) | simp)))))
      have hG3 : Blk w3 w.heap.size #[.slice (some ⟨gb, goff, none⟩) n cap] 24 := ((Blk.new _ _ _).alloc _).below b3 (by simp; omega)
      have hS3 : Blk w3 (w.heap.size + 1) #[.int .i64 k, .int .i64 e, .int .i64 r] 28 := by
        have := Blk.new (w.alloc (.cells #[.slice (some ⟨gb, goff, none⟩) n cap] 24)) #[.int .i64 k, .int .i64 e, .int .i64 r] 28
        rw [World.size_alloc] at this
        exact this.below b3 (by simp)
      have g0 := hG3.cellAt (i := 0) (v := .slice (some ⟨gb, goff, none⟩) n cap) rfl
      have s0 := hS3.cellAt (i := 0) (v := .int .i64 k) rfl
      have s1 := hS3.cellAt (i := 1) (v := .int .i64 e) rfl
      have s2 := hS3.cellAt (i := 2) (v := .int .i64 r) rfl
      have g0l := hG3.lt
      have s0l := hS3.lt
      obtain ⟨f0, f1, f2, f3, f4, f5, f6⟩ := hl2.out w3 hbel
      clear e0 e1 e2 e3 e4 e5 e6 b3 hG3 hS3
      have hgw3 : gb < w3.heap.size := by omega
      have hbel4 := fun o => hbel.alloc hbel.size o
      cases c1 : (r == 0) with
      | true =>
        go_wp2_with fail
        go_ret
        refine ⟨?_, hbel4 _⟩
        show Ending.returned (Value.bool true) = _
        simp [c1]
      | false =>
        cases c2 : (ki == 7) with
        | true =>
          go_wp2_with fail
          go_ret
          refine ⟨?_, hbel4 _⟩
          show Ending.returned (Value.bool (decide (r < ro))) = _
          simp [c1, c2]
        | false =>
          go_wp2_with fail
          go_ret
          refine ⟨?_, hbel4 _⟩
          show Ending.returned (Value.bool false) = _
          simp [c1, c2]
  · rw [goodS_out hin, ← hn]
    rw [← hn] at hin hlen
    clear hgd
    by_cases hl : l < 0
    · have d1 : decide (l < 0) = true := by simpa using hl
      go_enter Try.func24, Try.ntmps24
      go_wp2_with fail
      go_ret
      exact ⟨rfl, (by repeat (first | exact Below.refl _ _ | assumption | refine below_drewN ?_ _ | refine Below.drew ?_ | (refine Below.setCell ?_ (by first | omega | (simp; omega) | simp) _) | (refine Below.alloc ?_ (by first | omega | (simp; omega) | simp) _) | (refine Below.trans ?_ (Below.mono (by assumption) (by first | omega | (simp; omega) | simp)))))⟩
    · have d1 : decide (l < 0) = false := by simpa using hl
      have d2 : decide ((n : Int) ≤ l) = true := by simp; omega
      have hl0 : 0 ≤ l := by omega
      go_enter Try.func24, Try.ntmps24
      go_wp2_with fail
      go_ret
      exact ⟨rfl, (by repeat (first | exact Below.refl _ _ | assumption | refine below_drewN ?_ _ | refine Below.drew ?_ | (refine Below.setCell ?_ (by first | omega | (simp; omega) | simp) _) | (refine Below.alloc ?_ (by first | omega | (simp; omega) | simp) _) | (refine Below.trans ?_ (Below.mono (by assumption) (by first | omega | (simp; omega) | simp)))))⟩

set_option maxRecDepth 100000 in
set_option maxHeartbeats 2000000 in
/-- Good: the graph right, the pointstamp right. -/
theorem Good_any (ops : List TOp) (cap : Nat) (ao : Option Addr) (l e r : Int) (B : Nat) (w : World) (hB : B ≤ w.heap.size) (hx : SlA B 7 (ROp B) w ao cap ops) :
    Calls Try.prog 9 #[.agg #[.slice ao ops.length cap], .agg #[.int .i64 l, .int .i64 e, .int .i64 r]] w fun x w' => x = .returned (.bool (decide ((gcheck ops).2 = 0) && goodS ops l e r)) ∧ Below w.heap.size w w' := by
  have hg := fun W hb => gcheck_all ops cap ao W B (Nat.le_trans hB (Below.size hb)) (imp_ops hx (hb.mono hB))
  have hp := fun W hb => pgood_any ops cap ao l e r B W (Nat.le_trans hB (Below.size hb)) (imp_ops hx (hb.mono hB))
  generalize ops.length = n at hg hp ⊢
  obtain ⟨er, her⟩ : ∃ er, er = (gcheck ops).2 := ⟨_, rfl⟩
  rw [← her] at hg ⊢
  generalize goodS ops l e r = gv at hp ⊢
  replace her := Lib.hid her
  by_cases h0 : er = 0
  · subst h0
    rw [show (decide ((0 : Nat) = 0) && gv) = gv by simp]
    go_enter Try.func9, Try.ntmps9
    go_wp2_with fail
    refine (hg _ ((by repeat (first | exact Below.refl _ _ | assumption | refine below_drewN ?_ _ | refine Below.drew ?_ | (refine Below.setCell ?_ (by first | omega | (simp; omega) | simp) _) | (refine Below.alloc ?_ (by first | omega | (simp; omega) | simp) _) | (refine Below.trans ?_ (Below.mono (by assumption) (by first | omega | (simp; omega) | simp))))))).mono ?_
    rintro x w3 ⟨rfl, b3⟩
    have hbel : Below w.heap.size w w3 := (by repeat (first | exact Below.refl _ _ | assumption | refine below_drewN ?_ _ | refine Below.drew ?_ | (refine Below.setCell ?_ (by first | omega | (simp; omega) | simp) _) | (refine Below.alloc ?_ (by first | omega | (simp; omega) | simp) _) | (refine Below.trans ?_ (Below.mono (by assumption) (by first | omega | (simp; omega) | simp)))))
    have hG3 : Blk w3 w.heap.size #[.slice ao n cap] 24 := ((Blk.new _ _ _).alloc _).below b3 (by simp; omega)
    have hS3 : Blk w3 (w.heap.size + 1) #[.int .i64 l, .int .i64 e, .int .i64 r] 28 := by
      have := Blk.new (w.alloc (.cells #[.slice ao n cap] 24)) #[.int .i64 l, .int .i64 e, .int .i64 r] 28
      rw [World.size_alloc] at this
      exact this.below b3 (by simp)
    have g0 := hG3.cellAt (i := 0) (v := .slice ao n cap) rfl
    have s0 := hS3.cellAt (i := 0) (v := .int .i64 l) rfl
    have s1 := hS3.cellAt (i := 1) (v := .int .i64 e) rfl
    have s2 := hS3.cellAt (i := 2) (v := .int .i64 r) rfl
    clear hG3 hS3 b3 hg
    go_wp2_with fail
    refine (hp _ hbel).mono ?_
    rintro x w4 ⟨rfl, b4⟩
    go_wp2_with fail
    go_ret
    exact ⟨rfl, hbel.trans (b4.mono hbel.size)⟩
  · have hne : ((er : Int) == 0) = false := by simpa using h0
    rw [show (decide (er = 0) && gv) = false by simp [h0]]
    clear h0
    go_enter Try.func9, Try.ntmps9
    go_wp2_with fail
    refine (hg _ ((by repeat (first | exact Below.refl _ _ | assumption | refine below_drewN ?_ _ | refine Below.drew ?_ | (refine Below.setCell ?_ (by first | omega | (simp; omega) | simp) _) | (refine Below.alloc ?_ (by first | omega | (simp; omega) | simp) _) | (refine Below.trans ?_ (Below.mono (by assumption) (by first | omega | (simp; omega) | simp))))))).mono ?_
    rintro x w3 ⟨rfl, b3⟩
    have hbel : Below w.heap.size w w3 := (by repeat (first | exact Below.refl _ _ | assumption | refine below_drewN ?_ _ | refine Below.drew ?_ | (refine Below.setCell ?_ (by first | omega | (simp; omega) | simp) _) | (refine Below.alloc ?_ (by first | omega | (simp; omega) | simp) _) | (refine Below.trans ?_ (Below.mono (by assumption) (by first | omega | (simp; omega) | simp)))))
    go_wp2_with fail
    go_ret
    exact ⟨rfl, hbel⟩
end Go.Proofs.Ytbiakolkcikeiaa
