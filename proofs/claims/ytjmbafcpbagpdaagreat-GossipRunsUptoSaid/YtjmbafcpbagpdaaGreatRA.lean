/- Reach: what a right pointstamp is: good, Good, the reference's Good. -/
import Derived.Test.YtjmbafcpbagpdaaGreatGB
import Derived.Test.YtjmbafcpbagpdaaGreatGA
import Derived.Test.YtjmbafcpbagpdaaGreatTyReach
import Derived.Test.YtjmbafcpbagpdaaGreatSA
import Derived.Test.YtjmbafcpbagpdaaGreatL2
import Derived.Deep.Cut
import Derived.Deep.CutRange
import Derived.Deep.RegionHeld3
import Derived.Test.YtjmbafcpbagpdaaGreatL1
namespace Go.Proofs.YtjmbafcpbagpdaaGreat
open Go.RowKit
set_option linter.unusedVariables false
set_option linter.unusedSimpArgs false

def opAt (ops : List TOp) (l : Int) : TOp := (ops[l.toNat]?).getD ⟨0, [], 0, 0, 0, 0, 0⟩
def goodS (ops : List TOp) (l e r : Int) : Bool := decide (0 ≤ l ∧ l < ops.length) && goodT ⟨e, r⟩ && (decide (r = 0) || (decide ((opAt ops l).fKind = 7) && decide (r < (opAt ops l).fRounds)))
theorem opAt_get {ops : List TOp} {k : Nat} {o : TOp} (h : ops[k]? = some o) : opAt ops (k : Int) = o := by
  unfold opAt
  rw [Int.toNat_natCast, h]
  rfl
theorem goodS_out {ops : List TOp} {l e r : Int} (h : ¬ (0 ≤ l ∧ l < ops.length)) : goodS ops l e r = false := by
  unfold goodS
  rw [decide_eq_false h, Bool.false_and, Bool.false_and]
theorem goodS_bad {ops : List TOp} {l e r : Int} (h : goodT ⟨e, r⟩ = false) : goodS ops l e r = false := by
  unfold goodS
  rw [h, Bool.and_false, Bool.false_and]
theorem goodS_at {ops : List TOp} {k : Nat} {e r : Int} {o : TOp} (h : ops[k]? = some o) (hg : goodT ⟨e, r⟩ = true) : goodS ops k e r = (decide (r = 0) || (decide (o.fKind = 7) && decide (r < o.fRounds))) := by
  have hk := (List.getElem?_eq_some_iff.1 h).1
  unfold goodS
  rw [opAt_get h, hg, decide_eq_true (by omega), Bool.true_and, Bool.true_and]
theorem goodT_nn {e r : Int} (h : goodT ⟨e, r⟩ = true) : 0 ≤ e ∧ 0 ≤ r := by unfold goodT at h; exact of_decide_eq_true h

set_option maxRecDepth 100000 in
set_option maxHeartbeats 2000000 in
theorem pgood_any (ops : List TOp) (cap : Nat) (ao : Option Addr) (l e r : Int) (B : Nat) (w : World) (hB : B ≤ w.heap.size) (hx : SlA B 7 (ROp B) w ao cap ops) :
    Calls Tryz.prog 54 #[.agg #[.slice ao ops.length cap], .agg #[.int .i64 l, .int .i64 e, .int .i64 r]] w fun x w' => x = .returned (.bool (goodS ops l e r)) ∧ Below w.heap.size w w' := by
  have hlen := hx.len
  have hgd := fun W => good_any e r W
  obtain ⟨n, hn⟩ : ∃ n, n = ops.length := ⟨_, rfl⟩
  by_cases hin : 0 ≤ l ∧ l < ops.length
  · obtain ⟨k, rfl⟩ : ∃ k : Nat, l = k := ⟨l.toNat, by omega⟩
    have hk : k < ops.length := by omega
    obtain ⟨gb, goff, rfl, hgb, hq⟩ := hx.addr (by omega)
    clear hq
    obtain ⟨o, ho⟩ : ∃ o, ops[k] = o := ⟨_, rfl⟩
    have hok : ops[k]? = some o := by rw [List.getElem?_eq_getElem hk, ho]
    obtain ⟨ao1, cap1, e0, e1, e2, e3, e4, e5, e6, z0, hin1, z2, z3, z4, z5, z6⟩ := ROp.at hx hk ho
    have hgw : gb < w.heap.size := by omega
    rw [← hn] at hk hin hlen ⊢
    have d1 : decide ((k : Int) < 0) = false := by simp
    have d2 : decide ((n : Int) ≤ (k : Int)) = false := by simp; omega
    have d3 : decide (n ≤ k) = false := by simp; omega
    replace hn := Lib.hid hn
    cases hg : goodT ⟨e, r⟩ with
    | false =>
      rw [goodS_bad hg]
      rw [hg] at hgd
      clear hok ho hin1 hg
      go_enter Tryz.func54, Tryz.ntmps54
      go_wp2_with fail
      refine (hgd _).mono ?_
      rintro x w3 ⟨rfl, b3⟩
      have hbel : Below w.heap.size w w3 := (by repeat (first | exact Below.refl _ _ | assumption | refine below_drewN ?_ _ | refine Below.drew ?_ | (refine Below.setCell ?_ (by first | omega | (simp; omega) | simp) _) | (refine Below.alloc ?_ (by first | omega | (simp; omega) | simp) _) | (refine Below.trans ?_ (Below.mono (by assumption) (by first | omega | (simp; omega) | simp)))))
      go_wp2_with fail
      go_ret
      exact ⟨rfl, hbel⟩
    | true =>
      rw [goodS_at hok hg]
      rw [hg] at hgd
      have hnn := goodT_nn hg
      obtain ⟨il, hil⟩ : ∃ il, il = o.fIn.length := ⟨_, rfl⟩
      rw [← hil] at e1
      clear hok ho hin1 hg hil
      generalize o.fKind = ki at e0 ⊢
      generalize o.fRounds = ro at e4 ⊢
      generalize o.fArg = q2 at e2
      generalize o.fNum = q3 at e3
      generalize o.fTest = q5 at e5
      generalize o.fLim = q6 at e6
      have d4 : decide (r = 0) = (r == 0) := by by_cases h : r = 0 <;> simp [h]
      have d5 : decide (ki = 7) = (ki == 7) := by by_cases h : ki = 7 <;> simp [h]
      rw [d4, d5]
      clear d4 d5
      have hl2 : ∀ W : World, Below w.heap.size w W → W.cell? ⟨gb, goff + k * 7, none⟩ = some (.int .i64 ki) ∧ W.cell? ⟨gb, goff + k * 7 + 1, none⟩ = some (.slice ao1 il cap1) ∧ W.cell? ⟨gb, goff + k * 7 + 2, none⟩ = some (.int .i64 q2) ∧ W.cell? ⟨gb, goff + k * 7 + 3, none⟩ = some (.int .u32 q3) ∧ W.cell? ⟨gb, goff + k * 7 + 4, none⟩ = some (.int .i64 ro) ∧ W.cell? ⟨gb, goff + k * 7 + 5, none⟩ = some (.int .i64 q5) ∧ W.cell? ⟨gb, goff + k * 7 + 6, none⟩ = some (.int .u32 q6) := fun W hb => by
        have hc := fun o : Nat => hb.cell (p := ⟨gb, o, none⟩) hgw
        exact ⟨by rw [hc]; exact e0, by rw [hc]; exact e1, by rw [hc]; exact e2, by rw [hc]; exact e3, by rw [hc]; exact e4, by rw [hc]; exact e5, by rw [hc]; exact e6⟩
      replace hl2 := Lib.hid hl2
      go_enter Tryz.func54, Tryz.ntmps54
      go_wp2_with fail
      refine (hgd _).mono ?_
      rintro x w3 ⟨rfl, b3⟩
      have hbel : Below w.heap.size w w3 := (by repeat (first | exact Below.refl _ _ | assumption | refine below_drewN ?_ _ | refine Below.drew ?_ | (refine Below.setCell ?_ (by first | omega | (simp; omega) | simp) _) | (refine Below.alloc ?_ (by first | omega | (simp; omega) | simp) _) | (refine Below.trans ?_ (Below.mono (by assumption) (by first | omega | (simp; omega) | simp)))))
      have hG3 : Blk w3 w.heap.size #[.slice (some ⟨gb, goff, none⟩) n cap] 24 := ((Blk.new _ _ _).alloc _).below b3 (by simp; omega)
      have hS3 : Blk w3 (w.heap.size + 1) #[.int .i64 k, .int .i64 e, .int .i64 r] 59 := by
        have := Blk.new (w.alloc (.cells #[.slice (some ⟨gb, goff, none⟩) n cap] 24)) #[.int .i64 k, .int .i64 e, .int .i64 r] 59
        rw [World.size_alloc] at this
        exact this.below b3 (by simp)
      have g0 := hG3.cellAt (i := 0) (v := .slice (some ⟨gb, goff, none⟩) n cap) rfl
      have s0 := hS3.cellAt (i := 0) (v := .int .i64 k) rfl
      have s1 := hS3.cellAt (i := 1) (v := .int .i64 e) rfl
      have s2 := hS3.cellAt (i := 2) (v := .int .i64 r) rfl
      have g0l := hG3.lt
      have s0l := hS3.lt
      obtain ⟨f0, f1, f2, f3, f4, f5, f6⟩ := hl2.out w3 hbel
      clear e0 e1 e2 e3 e4 e5 e6 b3 hG3 hS3
      have hgw3 : gb < w3.heap.size := by omega
      have hbel4 := fun o => hbel.alloc hbel.size o
      cases c1 : (r == 0) with
      | true =>
        go_wp2_with fail
        go_ret
        refine ⟨?_, hbel4 _⟩
        show Ending.returned (Value.bool true) = _
        simp [c1]
      | false =>
        cases c2 : (ki == 7) with
        | true =>
          go_wp2_with fail
          go_ret
          refine ⟨?_, hbel4 _⟩
          show Ending.returned (Value.bool (decide (r < ro))) = _
          simp [c1, c2]
        | false =>
          go_wp2_with fail
          go_ret
          refine ⟨?_, hbel4 _⟩
          show Ending.returned (Value.bool false) = _
          simp [c1, c2]
  · rw [goodS_out hin, ← hn]
    rw [← hn] at hin hlen
    clear hgd
    by_cases hl : l < 0
    · have d1 : decide (l < 0) = true := by simpa using hl
      go_enter Tryz.func54, Tryz.ntmps54
      go_wp2_with fail
      go_ret
      exact ⟨rfl, (by repeat (first | exact Below.refl _ _ | assumption | refine below_drewN ?_ _ | refine Below.drew ?_ | (refine Below.setCell ?_ (by first | omega | (simp; omega) | simp) _) | (refine Below.alloc ?_ (by first | omega | (simp; omega) | simp) _) | (refine Below.trans ?_ (Below.mono (by assumption) (by first | omega | (simp; omega) | simp)))))⟩
    · have d1 : decide (l < 0) = false := by simpa using hl
      have d2 : decide ((n : Int) ≤ l) = true := by simp; omega
      have hl0 : 0 ≤ l := by omega
      go_enter Tryz.func54, Tryz.ntmps54
      go_wp2_with fail
      go_ret
      exact ⟨rfl, (by repeat (first | exact Below.refl _ _ | assumption | refine below_drewN ?_ _ | refine Below.drew ?_ | (refine Below.setCell ?_ (by first | omega | (simp; omega) | simp) _) | (refine Below.alloc ?_ (by first | omega | (simp; omega) | simp) _) | (refine Below.trans ?_ (Below.mono (by assumption) (by first | omega | (simp; omega) | simp)))))⟩

set_option maxRecDepth 100000 in
set_option maxHeartbeats 2000000 in
/-- Good: the graph right, the pointstamp right. -/
theorem Good_any (ops : List TOp) (cap : Nat) (ao : Option Addr) (l e r : Int) (B : Nat) (w : World) (hB : B ≤ w.heap.size) (hx : SlA B 7 (ROp B) w ao cap ops) :
    Calls Tryz.prog 32 #[.agg #[.slice ao ops.length cap], .agg #[.int .i64 l, .int .i64 e, .int .i64 r]] w fun x w' => x = .returned (.bool (decide ((gcheck ops).2 = 0) && goodS ops l e r)) ∧ Below w.heap.size w w' := by
  have hg := fun W hb => gcheck_all ops cap ao W B (Nat.le_trans hB (Below.size hb)) (imp_ops hx (hb.mono hB))
  have hp := fun W hb => pgood_any ops cap ao l e r B W (Nat.le_trans hB (Below.size hb)) (imp_ops hx (hb.mono hB))
  generalize ops.length = n at hg hp ⊢
  obtain ⟨er, her⟩ : ∃ er, er = (gcheck ops).2 := ⟨_, rfl⟩
  rw [← her] at hg ⊢
  generalize goodS ops l e r = gv at hp ⊢
  replace her := Lib.hid her
  by_cases h0 : er = 0
  · subst h0
    rw [show (decide ((0 : Nat) = 0) && gv) = gv by simp]
    go_enter Tryz.func32, Tryz.ntmps32
    go_wp2_with fail
    refine (hg _ ((by repeat (first | exact Below.refl _ _ | assumption | refine below_drewN ?_ _ | refine Below.drew ?_ | (refine Below.setCell ?_ (by first | omega | (simp; omega) | simp) _) | (refine Below.alloc ?_ (by first | omega | (simp; omega) | simp) _) | (refine Below.trans ?_ (Below.mono (by assumption) (by first | omega | (simp; omega) | simp))))))).mono ?_
    rintro x w3 ⟨rfl, b3⟩
    have hbel : Below w.heap.size w w3 := (by repeat (first | exact Below.refl _ _ | assumption | refine below_drewN ?_ _ | refine Below.drew ?_ | (refine Below.setCell ?_ (by first | omega | (simp; omega) | simp) _) | (refine Below.alloc ?_ (by first | omega | (simp; omega) | simp) _) | (refine Below.trans ?_ (Below.mono (by assumption) (by first | omega | (simp; omega) | simp)))))
    have hG3 : Blk w3 w.heap.size #[.slice ao n cap] 24 := ((Blk.new _ _ _).alloc _).below b3 (by simp; omega)
    have hS3 : Blk w3 (w.heap.size + 1) #[.int .i64 l, .int .i64 e, .int .i64 r] 59 := by
      have := Blk.new (w.alloc (.cells #[.slice ao n cap] 24)) #[.int .i64 l, .int .i64 e, .int .i64 r] 59
      rw [World.size_alloc] at this
      exact this.below b3 (by simp)
    have g0 := hG3.cellAt (i := 0) (v := .slice ao n cap) rfl
    have s0 := hS3.cellAt (i := 0) (v := .int .i64 l) rfl
    have s1 := hS3.cellAt (i := 1) (v := .int .i64 e) rfl
    have s2 := hS3.cellAt (i := 2) (v := .int .i64 r) rfl
    clear hG3 hS3 b3 hg
    go_wp2_with fail
    refine (hp _ hbel).mono ?_
    rintro x w4 ⟨rfl, b4⟩
    go_wp2_with fail
    go_ret
    exact ⟨rfl, hbel.trans (b4.mono hbel.size)⟩
  · have hne : ((er : Int) == 0) = false := by simpa using h0
    rw [show (decide (er = 0) && gv) = false by simp [h0]]
    clear h0
    go_enter Tryz.func32, Tryz.ntmps32
    go_wp2_with fail
    refine (hg _ ((by repeat (first | exact Below.refl _ _ | assumption | refine below_drewN ?_ _ | refine Below.drew ?_ | (refine Below.setCell ?_ (by first | omega | (simp; omega) | simp) _) | (refine Below.alloc ?_ (by first | omega | (simp; omega) | simp) _) | (refine Below.trans ?_ (Below.mono (by assumption) (by first | omega | (simp; omega) | simp))))))).mono ?_
    rintro x w3 ⟨rfl, b3⟩
    have hbel : Below w.heap.size w w3 := (by repeat (first | exact Below.refl _ _ | assumption | refine below_drewN ?_ _ | refine Below.drew ?_ | (refine Below.setCell ?_ (by first | omega | (simp; omega) | simp) _) | (refine Below.alloc ?_ (by first | omega | (simp; omega) | simp) _) | (refine Below.trans ?_ (Below.mono (by assumption) (by first | omega | (simp; omega) | simp)))))
    go_wp2_with fail
    go_ret
    exact ⟨rfl, hbel⟩
end Go.Proofs.YtjmbafcpbagpdaaGreat

/- Reach: the reference's Good. -/
namespace Go.Proofs.YtjmbafcpbagpdaaGreat
open Go.RowKit
set_option linter.unusedVariables false
set_option linter.unusedSimpArgs false

theorem ok_at {ops : List TOp} (h : (gcheck ops).2 = 0) {k : Nat} {o : TOp} (ho : ops[k]? = some o) : okB o k ops.length = true := by
  obtain ⟨hb, rfl⟩ := List.getElem?_eq_some_iff.1 ho
  unfold gcheck at h
  by_cases hl : ops.length < 1 ∨ 16 < ops.length
  · rw [if_pos hl] at h; simp at h
  rw [if_neg hl] at h
  cases hbf : badFrom ops.length ops 0 with
  | some i => rw [hbf] at h; simp at h
  | none => simpa using badFrom_some ops 0 hbf k hb
theorem rounds_at {ops : List TOp} (h : (gcheck ops).2 = 0) {k : Nat} {o : TOp} (ho : ops[k]? = some o) (h7 : o.fKind = 7) : 1 ≤ o.fRounds ∧ o.fRounds ≤ 16 := by
  have h1 := ok_at h ho
  unfold okB at h1
  simp only [Bool.and_eq_true] at h1
  have h2 : formB o = true := h1.1.1.1
  unfold formB at h2
  rw [h7] at h2
  simp at h2
  omega

set_option maxRecDepth 100000 in
set_option maxHeartbeats 2000000 in
theorem rGood_any (ops : List TOp) (cap : Nat) (ao : Option Addr) (l e r : Int) (B : Nat) (w : World) (hB : B ≤ w.heap.size) (hx : SlA B 7 (ROp B) w ao cap ops) :
    Calls Tryz.prog 35 #[.agg #[.slice ao ops.length cap], .agg #[.int .i64 l, .int .i64 e, .int .i64 r]] w fun x w' => x = .returned (.bool (decide ((gcheck ops).2 = 0) && goodS ops l e r)) ∧ Below w.heap.size w w' := by
  have hg := fun W hb => rcheck_all ops cap ao W B (Nat.le_trans hB (Below.size hb)) (imp_ops hx (hb.mono hB))
  have hgd := fun W => rgood_any e r W
  have hlen := hx.len
  obtain ⟨n, hn⟩ : ∃ n, n = ops.length := ⟨_, rfl⟩
  rw [← hn] at hg hlen ⊢
  obtain ⟨er, her⟩ : ∃ er, er = (gcheck ops).2 := ⟨_, rfl⟩
  rw [← her] at hg ⊢
  by_cases h0 : er = 0
  · subst h0
    rw [show (decide ((0 : Nat) = 0) && goodS ops l e r) = goodS ops l e r by simp]
    by_cases hin : 0 ≤ l ∧ l < n
    · obtain ⟨k, rfl⟩ : ∃ k : Nat, l = k := ⟨l.toNat, by omega⟩
      have hk : k < ops.length := by omega
      obtain ⟨gb, goff, rfl, hgb, hq⟩ := hx.addr (by omega)
      clear hq
      obtain ⟨o, ho⟩ : ∃ o, ops[k] = o := ⟨_, rfl⟩
      have hok : ops[k]? = some o := by rw [List.getElem?_eq_getElem hk, ho]
      have hr7 := rounds_at her.symm hok
      have hl2 : ∀ W : World, Below w.heap.size w W → W.cell? ⟨gb, goff + k * 7, none⟩ = some (.int .i64 o.fKind) ∧ W.cell? ⟨gb, goff + k * 7 + 4, none⟩ = some (.int .i64 o.fRounds) := fun W hb => by
        obtain ⟨ao1, cap1, e0, e1, e2, e3, e4, _⟩ := ROp.at (imp_ops hx (hb.mono hB)) hk ho
        exact ⟨e0, e4⟩
      have hgw : gb < w.heap.size := by omega
      have d1 : decide ((k : Int) < 0) = false := by simp
      have d2 : decide ((n : Int) ≤ (k : Int)) = false := by simp; omega
      have d3 : decide (n ≤ k) = false := by simp; omega
      replace hn := Lib.hid hn
      replace her := Lib.hid her
      replace hl2 := Lib.hid hl2
      cases hgt : goodT ⟨e, r⟩ with
      | false =>
        rw [goodS_bad hgt]
        rw [hgt] at hgd
        clear hok ho hgt hr7 hl2
        go_enter Tryz.func35, Tryz.ntmps35
        go_wp2_with fail
        refine (hg _ ((by repeat (first | exact Below.refl _ _ | assumption | refine below_drewN ?_ _ | refine Below.drew ?_ | (refine Below.setCell ?_ (by first | omega | (simp; omega) | simp) _) | (refine Below.alloc ?_ (by first | omega | (simp; omega) | simp) _) | (refine Below.trans ?_ (Below.mono (by assumption) (by first | omega | (simp; omega) | simp))))))).mono ?_
        rintro x w2 ⟨rfl, b2⟩
        have hbel2 : Below w.heap.size w w2 := (by repeat (first | exact Below.refl _ _ | assumption | refine below_drewN ?_ _ | refine Below.drew ?_ | (refine Below.setCell ?_ (by first | omega | (simp; omega) | simp) _) | (refine Below.alloc ?_ (by first | omega | (simp; omega) | simp) _) | (refine Below.trans ?_ (Below.mono (by assumption) (by first | omega | (simp; omega) | simp)))))
        have hG3 : Blk w2 w.heap.size #[.slice (some ⟨gb, goff, none⟩) n cap] 24 := ((Blk.new _ _ _).alloc _).below b2 (by simp; omega)
        have hS3 : Blk w2 (w.heap.size + 1) #[.int .i64 k, .int .i64 e, .int .i64 r] 59 := by
          have := Blk.new (w.alloc (.cells #[.slice (some ⟨gb, goff, none⟩) n cap] 24)) #[.int .i64 k, .int .i64 e, .int .i64 r] 59
          rw [World.size_alloc] at this
          exact this.below b2 (by simp)
        have g0 := hG3.cellAt (i := 0) (v := .slice (some ⟨gb, goff, none⟩) n cap) rfl
        have s0 := hS3.cellAt (i := 0) (v := .int .i64 k) rfl
        have s1 := hS3.cellAt (i := 1) (v := .int .i64 e) rfl
        have s2 := hS3.cellAt (i := 2) (v := .int .i64 r) rfl
        clear hG3 hS3 b2 hg
        go_wp2_with fail
        refine (hgd _).mono ?_
        rintro x w3 ⟨rfl, b3⟩
        go_wp2_with fail
        go_ret
        exact ⟨rfl, hbel2.trans (b3.mono hbel2.size)⟩
      | true =>
        rw [goodS_at hok hgt]
        rw [hgt] at hgd
        have hnn := goodT_nn hgt
        clear hok ho hgt
        generalize o.fKind = ki at hl2 hr7 ⊢
        generalize o.fRounds = ro at hl2 hr7 ⊢
        obtain ⟨v, hv⟩ : ∃ v, v = (decide (r = 0) || (decide (ki = 7) && decide (r < ro))) := ⟨_, rfl⟩
        rw [← hv]
        have hv7 : ki = 7 → decide (r ≤ ro - 1) = v := fun h => by
          have := hr7 h
          rw [hv, decide_eq_true h, Bool.true_and]
          by_cases h2 : r ≤ ro - 1
          · rw [decide_eq_true h2, decide_eq_true (show r < ro by omega), Bool.or_true]
          · rw [decide_eq_false h2, decide_eq_false (show ¬ r < ro by omega), decide_eq_false (show ¬ r = 0 by omega)]; rfl
        have hv8 : ki ≠ 7 → decide (r ≤ 0) = v := fun h => by
          rw [hv, decide_eq_false h, Bool.false_and, Bool.or_false]
          by_cases h2 : r = 0
          · subst h2; rfl
          · rw [decide_eq_false h2, decide_eq_false (by omega)]
        clear hv
        replace hv7 := Lib.hid hv7
        replace hv8 := Lib.hid hv8
        replace hr7 := Lib.hid hr7
        go_enter Tryz.func35, Tryz.ntmps35
        go_wp2_with fail
        refine (hg _ ((by repeat (first | exact Below.refl _ _ | assumption | refine below_drewN ?_ _ | refine Below.drew ?_ | (refine Below.setCell ?_ (by first | omega | (simp; omega) | simp) _) | (refine Below.alloc ?_ (by first | omega | (simp; omega) | simp) _) | (refine Below.trans ?_ (Below.mono (by assumption) (by first | omega | (simp; omega) | simp))))))).mono ?_
        rintro x w2 ⟨rfl, b2⟩
        have hbel2 : Below w.heap.size w w2 := (by repeat (first | exact Below.refl _ _ | assumption | refine below_drewN ?_ _ | refine Below.drew ?_ | (refine Below.setCell ?_ (by first | omega | (simp; omega) | simp) _) | (refine Below.alloc ?_ (by first | omega | (simp; omega) | simp) _) | (refine Below.trans ?_ (Below.mono (by assumption) (by first | omega | (simp; omega) | simp)))))
        have hG3 : Blk w2 w.heap.size #[.slice (some ⟨gb, goff, none⟩) n cap] 24 := ((Blk.new _ _ _).alloc _).below b2 (by simp; omega)
        have hS3 : Blk w2 (w.heap.size + 1) #[.int .i64 k, .int .i64 e, .int .i64 r] 59 := by
          have := Blk.new (w.alloc (.cells #[.slice (some ⟨gb, goff, none⟩) n cap] 24)) #[.int .i64 k, .int .i64 e, .int .i64 r] 59
          rw [World.size_alloc] at this
          exact this.below b2 (by simp)
        have g0 := hG3.cellAt (i := 0) (v := .slice (some ⟨gb, goff, none⟩) n cap) rfl
        have s0 := hS3.cellAt (i := 0) (v := .int .i64 k) rfl
        have s1 := hS3.cellAt (i := 1) (v := .int .i64 e) rfl
        have s2 := hS3.cellAt (i := 2) (v := .int .i64 r) rfl
        clear b2 hg
        go_wp2_with fail
        refine (hgd _).mono ?_
        rintro x w3 ⟨rfl, b3⟩
        have hbel3 := hbel2.trans (b3.mono hbel2.size)
        replace hG3 := hG3.below b3 hG3.lt
        replace hS3 := hS3.below b3 hS3.lt
        clear g0 s0 s1 s2 b3 hbel2
        have g0 := hG3.cellAt (i := 0) (v := .slice (some ⟨gb, goff, none⟩) n cap) rfl
        have s0 := hS3.cellAt (i := 0) (v := .int .i64 k) rfl
        have s1 := hS3.cellAt (i := 1) (v := .int .i64 e) rfl
        have s2 := hS3.cellAt (i := 2) (v := .int .i64 r) rfl
        obtain ⟨f0, f4⟩ := hl2.out w3 hbel3
        clear hG3 hS3
        by_cases h7 : ki = 7
        · have hr := hr7.out h7
          have c7 : (ki == 7) = true := by simpa using h7
          go_wp2_with fail
          go_ret
          refine ⟨?_, hbel3⟩
          show Ending.returned (Value.bool (decide (r ≤ ro - 1))) = _
          rw [hv7.out h7]
        · have c7 : (ki == 7) = false := by simpa using h7
          go_wp2_with fail
          go_ret
          refine ⟨?_, hbel3⟩
          show Ending.returned (Value.bool (decide (r ≤ 0))) = _
          rw [hv8.out h7]
    · rw [goodS_out (by rw [← hn]; exact hin)]
      replace hn := Lib.hid hn
      replace her := Lib.hid her
      clear hgd
      by_cases hl : l < 0
      · have d1 : decide (l < 0) = true := by simpa using hl
        go_enter Tryz.func35, Tryz.ntmps35
        go_wp2_with fail
        refine (hg _ ((by repeat (first | exact Below.refl _ _ | assumption | refine below_drewN ?_ _ | refine Below.drew ?_ | (refine Below.setCell ?_ (by first | omega | (simp; omega) | simp) _) | (refine Below.alloc ?_ (by first | omega | (simp; omega) | simp) _) | (refine Below.trans ?_ (Below.mono (by assumption) (by first | omega | (simp; omega) | simp))))))).mono ?_
        rintro x w2 ⟨rfl, b2⟩
        have hbel2 : Below w.heap.size w w2 := (by repeat (first | exact Below.refl _ _ | assumption | refine below_drewN ?_ _ | refine Below.drew ?_ | (refine Below.setCell ?_ (by first | omega | (simp; omega) | simp) _) | (refine Below.alloc ?_ (by first | omega | (simp; omega) | simp) _) | (refine Below.trans ?_ (Below.mono (by assumption) (by first | omega | (simp; omega) | simp)))))
        have hS3 : Blk w2 (w.heap.size + 1) #[.int .i64 l, .int .i64 e, .int .i64 r] 59 := by
          have := Blk.new (w.alloc (.cells #[.slice ao n cap] 24)) #[.int .i64 l, .int .i64 e, .int .i64 r] 59
          rw [World.size_alloc] at this
          exact this.below b2 (by simp)
        have s0 := hS3.cellAt (i := 0) (v := .int .i64 l) rfl
        clear hg hS3 b2
        go_wp2_with fail
        go_ret
        exact ⟨rfl, hbel2⟩
      · have d1 : decide (l < 0) = false := by simpa using hl
        have d2 : decide ((n : Int) ≤ l) = true := by simp; omega
        go_enter Tryz.func35, Tryz.ntmps35
        go_wp2_with fail
        refine (hg _ ((by repeat (first | exact Below.refl _ _ | assumption | refine below_drewN ?_ _ | refine Below.drew ?_ | (refine Below.setCell ?_ (by first | omega | (simp; omega) | simp) _) | (refine Below.alloc ?_ (by first | omega | (simp; omega) | simp) _) | (refine Below.trans ?_ (Below.mono (by assumption) (by first | omega | (simp; omega) | simp))))))).mono ?_
        rintro x w2 ⟨rfl, b2⟩
        have hbel2 : Below w.heap.size w w2 := (by repeat (first | exact Below.refl _ _ | assumption | refine below_drewN ?_ _ | refine Below.drew ?_ | (refine Below.setCell ?_ (by first | omega | (simp; omega) | simp) _) | (refine Below.alloc ?_ (by first | omega | (simp; omega) | simp) _) | (refine Below.trans ?_ (Below.mono (by assumption) (by first | omega | (simp; omega) | simp)))))
        have hG3 : Blk w2 w.heap.size #[.slice ao n cap] 24 := ((Blk.new _ _ _).alloc _).below b2 (by simp; omega)
        have hS3 : Blk w2 (w.heap.size + 1) #[.int .i64 l, .int .i64 e, .int .i64 r] 59 := by
          have := Blk.new (w.alloc (.cells #[.slice ao n cap] 24)) #[.int .i64 l, .int .i64 e, .int .i64 r] 59
          rw [World.size_alloc] at this
          exact this.below b2 (by simp)
        have g0 := hG3.cellAt (i := 0) (v := .slice ao n cap) rfl
        have s0 := hS3.cellAt (i := 0) (v := .int .i64 l) rfl
        clear hg hG3 hS3 b2
        go_wp2_with fail
        go_ret
        exact ⟨rfl, hbel2⟩
  · have hne : ((er : Int) != 0) = true := by simpa using h0
    rw [show (decide (er = 0) && goodS ops l e r) = false by simp [h0]]
    replace hn := Lib.hid hn
    replace her := Lib.hid her
    clear h0 hgd
    go_enter Tryz.func35, Tryz.ntmps35
    go_wp2_with fail
    refine (hg _ ((by repeat (first | exact Below.refl _ _ | assumption | refine below_drewN ?_ _ | refine Below.drew ?_ | (refine Below.setCell ?_ (by first | omega | (simp; omega) | simp) _) | (refine Below.alloc ?_ (by first | omega | (simp; omega) | simp) _) | (refine Below.trans ?_ (Below.mono (by assumption) (by first | omega | (simp; omega) | simp))))))).mono ?_
    rintro x w3 ⟨rfl, b3⟩
    have hbel : Below w.heap.size w w3 := (by repeat (first | exact Below.refl _ _ | assumption | refine below_drewN ?_ _ | refine Below.drew ?_ | (refine Below.setCell ?_ (by first | omega | (simp; omega) | simp) _) | (refine Below.alloc ?_ (by first | omega | (simp; omega) | simp) _) | (refine Below.trans ?_ (Below.mono (by assumption) (by first | omega | (simp; omega) | simp)))))
    go_wp2_with fail
    go_ret
    exact ⟨rfl, hbel⟩
end Go.Proofs.YtjmbafcpbagpdaaGreat

/- Reach: Could, and the reference's Could. -/
namespace Go.Proofs.YtjmbafcpbagpdaaGreat
open Go.RowKit
set_option linter.unusedVariables false
set_option linter.unusedSimpArgs false

noncomputable def wayS (ops : List TOp) (la ea ra lb eb rb : Int) : Bool := if la = lb then leT ⟨ea, ra⟩ ⟨eb, rb⟩ else rch ops la.toNat lb.toNat && decide (ea ≤ eb)
noncomputable def couldS (ops : List TOp) (la ea ra lb eb rb : Int) : Bool := decide ((gcheck ops).2 = 0) && (goodS ops la ea ra && (goodS ops lb eb rb && wayS ops la ea ra lb eb rb))
theorem goodS_in {ops : List TOp} {l e r : Int} (h : goodS ops l e r = true) : ∃ k : Nat, l = k ∧ k < ops.length := by
  unfold goodS at h
  simp only [Bool.and_eq_true, decide_eq_true_eq] at h
  exact ⟨l.toNat, by omega, by omega⟩

/-- The three variables of Could. -/
structure CB (w wr : World) (ao : Option Addr) (n cap : Nat) (la ea ra lb eb rb : Int) : Prop where
  bel : Below w.heap.size w wr
  g : Blk wr w.heap.size #[.slice ao n cap] 24
  a : Blk wr (w.heap.size + 1) #[.int .i64 la, .int .i64 ea, .int .i64 ra] 59
  b : Blk wr (w.heap.size + 1 + 1) #[.int .i64 lb, .int .i64 eb, .int .i64 rb] 59
namespace CB
variable {w wr wr' : World} {ao : Option Addr} {n cap : Nat} {la ea ra lb eb rb : Int}
theorem new : CB w (((w.alloc (.cells #[.slice ao n cap] 24)).alloc (.cells #[.int .i64 la, .int .i64 ea, .int .i64 ra] 59)).alloc (.cells #[.int .i64 lb, .int .i64 eb, .int .i64 rb] 59)) ao n cap la ea ra lb eb rb := by
  refine ⟨(((Below.refl _ _).alloc (Nat.le_refl _) _).alloc (by simp) _).alloc (by simp; omega) _, ((Blk.new _ _ _).alloc _).alloc _, ?_, ?_⟩
  · have := (Blk.new (w.alloc (.cells #[.slice ao n cap] 24)) #[.int .i64 la, .int .i64 ea, .int .i64 ra] 59).alloc (.cells #[.int .i64 lb, .int .i64 eb, .int .i64 rb] 59)
    rwa [World.size_alloc] at this
  · have := Blk.new ((w.alloc (.cells #[.slice ao n cap] 24)).alloc (.cells #[.int .i64 la, .int .i64 ea, .int .i64 ra] 59)) #[.int .i64 lb, .int .i64 eb, .int .i64 rb] 59
    rwa [World.size_alloc, World.size_alloc] at this
theorem below (h : CB w wr ao n cap la ea ra lb eb rb) (k : Below wr.heap.size wr wr') : CB w wr' ao n cap la ea ra lb eb rb :=
  ⟨h.bel.trans (k.mono h.bel.size), h.g.below k h.g.lt, h.a.below k h.a.lt, h.b.below k h.b.lt⟩
theorem facts (h : CB w wr ao n cap la ea ra lb eb rb) : wr.cell? ⟨w.heap.size, 0, none⟩ = some (.slice ao n cap) ∧
    wr.cell? ⟨w.heap.size + 1, 0, none⟩ = some (.int .i64 la) ∧ wr.cell? ⟨w.heap.size + 1, 1, none⟩ = some (.int .i64 ea) ∧ wr.cell? ⟨w.heap.size + 1, 2, none⟩ = some (.int .i64 ra) ∧
    wr.cell? ⟨w.heap.size + 1 + 1, 0, none⟩ = some (.int .i64 lb) ∧ wr.cell? ⟨w.heap.size + 1 + 1, 1, none⟩ = some (.int .i64 eb) ∧ wr.cell? ⟨w.heap.size + 1 + 1, 2, none⟩ = some (.int .i64 rb) ∧ w.heap.size + 1 + 1 < wr.heap.size :=
  ⟨h.g.cellAt rfl, h.a.cellAt rfl, h.a.cellAt rfl, h.a.cellAt rfl, h.b.cellAt rfl, h.b.cellAt rfl, h.b.cellAt rfl, h.b.lt⟩
end CB

set_option maxRecDepth 100000 in
set_option maxHeartbeats 4000000 in
theorem could_any (ops : List TOp) (cap : Nat) (ao : Option Addr) (la ea ra lb eb rb : Int) (B : Nat) (w : World) (hB : B ≤ w.heap.size) (hx : SlA B 7 (ROp B) w ao cap ops) :
    Calls Tryz.prog 56 #[.agg #[.slice ao ops.length cap], .agg #[.int .i64 la, .int .i64 ea, .int .i64 ra], .agg #[.int .i64 lb, .int .i64 eb, .int .i64 rb]] w fun x w' => x = .returned (.bool (couldS ops la ea ra lb eb rb)) ∧ Below w.heap.size w w' := by
  have hp := fun l e r W hb => pgood_any ops cap ao l e r B W (Nat.le_trans hB (Below.size hb)) (imp_ops hx (hb.mono hB))
  by_cases hok : (gcheck ops).2 = 0
  · have hG := okG_of_check hok
    have hR := fun W hb => reaches_ok ops cap ao W B (Nat.le_trans hB (Below.size hb)) (imp_ops hx (hb.mono hB)) hok
    rw [show couldS ops la ea ra lb eb rb = (goodS ops la ea ra && (goodS ops lb eb rb && wayS ops la ea ra lb eb rb)) by unfold couldS; rw [decide_eq_true hok, Bool.true_and]]
    have hpos := hG.pos
    have hmost := hG.most
    have hpa := hp la ea ra
    have hpb := hp lb eb rb
    obtain ⟨n, hn⟩ : ∃ n, n = ops.length := ⟨_, rfl⟩
    rw [← hn] at hR hpa hpb hpos hmost ⊢
    have hne : ((n : Int) == 0) = false := by simp; omega
    have hina : goodS ops la ea ra = true → ∃ k : Nat, la = k ∧ k < n := fun h => by rw [hn]; exact goodS_in h
    have hinb : goodS ops lb eb rb = true → ∃ k : Nat, lb = k ∧ k < n := fun h => by rw [hn]; exact goodS_in h
    obtain ⟨ga, hga⟩ : ∃ g, g = goodS ops la ea ra := ⟨_, rfl⟩
    obtain ⟨gb, hgb⟩ : ∃ g, g = goodS ops lb eb rb := ⟨_, rfl⟩
    obtain ⟨wy, hwy⟩ : ∃ g, g = wayS ops la ea ra lb eb rb := ⟨_, rfl⟩
    rw [← hga] at hpa hina ⊢
    rw [← hgb] at hpb hinb ⊢
    rw [← hwy]
    replace hga := Lib.hid hga
    replace hgb := Lib.hid hgb
    replace hn := Lib.hid hn
    replace hok := Lib.hid hok
    replace hG := Lib.hid hG
    replace hwy := Lib.hid hwy
    replace hinb := Lib.hid hinb
    replace hina := Lib.hid hina
    clear hp
    go_enter Tryz.func56, Tryz.ntmps56
    go_wp2_with fail
    have hC0 : CB w _ ao n cap la ea ra lb eb rb := CB.new
    refine (hR _ hC0.bel).mono ?_
    rintro e w1 ⟨v, rfl, ⟨hb, rs, rfl, hP⟩, hb1⟩
    have hC := hC0.below hb1
    obtain ⟨c0, c1, c2, c3, c4, c5, c6, cl⟩ := hC.facts
    clear hb1 hC0 hR
    dsimp only
    go_wp2_with fail
    refine (hpa _ hC.bel).mono ?_
    rintro e w2 ⟨rfl, hb2⟩
    replace hC := hC.below hb2
    replace hP := hP.below hb2 (Nat.le_refl _)
    clear c0 c1 c2 c3 c4 c5 c6 cl hb2 hpa
    obtain ⟨c0, c1, c2, c3, c4, c5, c6, cl⟩ := hC.facts
    cases ga with
    | false =>
      dsimp only
      go_wp2_with fail
      go_ret
      refine ⟨?_, hC.bel⟩
      show Ending.returned (Value.bool false) = _
      rfl
    | true =>
      obtain ⟨ka, rfl, hka⟩ := hina.out (by trivial)
      dsimp only
      go_wp2_with fail
      refine (hpb _ hC.bel).mono ?_
      rintro e w3 ⟨rfl, hb2⟩
      replace hC := hC.below hb2
      replace hP := hP.below hb2 (Nat.le_refl _)
      clear c0 c1 c2 c3 c4 c5 c6 cl hb2 hpb
      obtain ⟨c0, c1, c2, c3, c4, c5, c6, cl⟩ := hC.facts
      cases gb with
      | false =>
        dsimp only
        go_wp2_with fail
        go_ret
        refine ⟨?_, hC.bel⟩
        show Ending.returned (Value.bool false) = _
        rfl
      | true =>
        obtain ⟨kb, rfl, hkb⟩ := hinb.out (by trivial)
        dsimp only
        by_cases hab : ka = kb
        · have heq : ((ka : Int) == (kb : Int)) = true := by rw [hab]; simp
          have hw2 : wy = leT ⟨ea, ra⟩ ⟨eb, rb⟩ := by rw [hwy.out]; unfold wayS; rw [if_pos (by omega)]
          go_wp2_with fail
          refine (le_any ea ra eb rb _).mono ?_
          rintro e w4 ⟨rfl, hb4⟩
          go_wp2_with fail
          go_ret
          refine ⟨?_, hC.bel.trans (hb4.mono hC.bel.size)⟩
          show Ending.returned (Value.bool (leT ⟨ea, ra⟩ ⟨eb, rb⟩)) = _
          rw [← hw2]; rfl
        · have heq : ((ka : Int) == (kb : Int)) = false := by simp; omega
          have hw2 : wy = (rch ops ka kb && decide (ea ≤ eb)) := by rw [hwy.out]; unfold wayS; rw [if_neg (by omega), Int.toNat_natCast, Int.toNat_natCast]
          obtain ⟨rr, h1, h2⟩ := hP.hcell (Nat.zero_le ka) hka
          have h3 := hP.rcell (Nat.zero_le ka) h1 hkb
          generalize rch ops ka kb = rv at hw2 h3
          replace hw2 := Lib.hid hw2
          clear h1 hab
          cases rv with
          | false =>
            go_wp2_with fail
            go_quiet (fail)
            go_wp2_with fail
            go_ret
            refine ⟨?_, below_drewN hC.bel _⟩
            rw [hw2.out]; rfl
          | true =>
            go_wp2_with fail
            go_quiet (fail)
            go_wp2_with fail
            go_ret
            refine ⟨?_, below_drewN hC.bel _⟩
            rw [hw2.out]
            simp
  · have hR := fun W hb => reaches_no ops cap ao W B (Nat.le_trans hB (Below.size hb)) (imp_ops hx (hb.mono hB)) hok
    rw [show couldS ops la ea ra lb eb rb = false by unfold couldS; rw [decide_eq_false hok, Bool.false_and]]
    clear hp
    generalize ops.length = n at hR ⊢
    go_enter Tryz.func56, Tryz.ntmps56
    go_wp2_with fail
    have hC0 : CB w _ ao n cap la ea ra lb eb rb := CB.new
    refine (hR _ hC0.bel).mono ?_
    rintro e w1 ⟨rfl, hb1⟩
    have hC := hC0.below hb1
    go_wp2_with fail
    go_ret
    exact ⟨rfl, hC.bel⟩

set_option maxRecDepth 100000 in
set_option maxHeartbeats 4000000 in
theorem rcould_any (ops : List TOp) (cap : Nat) (ao : Option Addr) (la ea ra lb eb rb : Int) (B : Nat) (w : World) (hB : B ≤ w.heap.size) (hx : SlA B 7 (ROp B) w ao cap ops) :
    Calls Tryz.prog 41 #[.agg #[.slice ao ops.length cap], .agg #[.int .i64 la, .int .i64 ea, .int .i64 ra], .agg #[.int .i64 lb, .int .i64 eb, .int .i64 rb]] w fun x w' => x = .returned (.bool (couldS ops la ea ra lb eb rb)) ∧ Below w.heap.size w w' := by
  have hp := fun l e r W hb => rGood_any ops cap ao l e r B W (Nat.le_trans hB (Below.size hb)) (imp_ops hx (hb.mono hB))
  have hpa := hp la ea ra
  have hpb := hp lb eb rb
  have hQ := fun (hok : (gcheck ops).2 = 0) (gb goff : Nat) (e : ao = some ⟨gb, goff, none⟩) (a b : Nat) (hb : b < ops.length) (ha : a < ops.length) W hw => rreach_any ops cap gb goff B (okG_of_check hok) (b + 1) b a W (by omega) (Nat.le_trans hB (Below.size hw)) (by rw [← e]; exact imp_ops hx (Below.mono hw hB)) hb ha
  obtain ⟨ga, hga⟩ : ∃ g, g = (decide ((gcheck ops).2 = 0) && goodS ops la ea ra) := ⟨_, rfl⟩
  obtain ⟨gv, hgv⟩ : ∃ g, g = (decide ((gcheck ops).2 = 0) && goodS ops lb eb rb) := ⟨_, rfl⟩
  rw [← hga] at hpa
  rw [← hgv] at hpb
  have hcs : couldS ops la ea ra lb eb rb = (ga && (gv && wayS ops la ea ra lb eb rb)) := by
    rw [hga, hgv]
    unfold couldS
    cases decide ((gcheck ops).2 = 0) <;> simp
  rw [hcs]
  clear hcs hp
  have hwy : ga = true → gv = true → ∃ ka kb gb goff : Nat, la = ka ∧ lb = kb ∧ ka < ops.length ∧ kb < ops.length ∧ ao = some ⟨gb, goff, none⟩ ∧ (gcheck ops).2 = 0 := fun h1 h2 => by
    rw [hga] at h1
    rw [hgv] at h2
    simp only [Bool.and_eq_true, decide_eq_true_eq] at h1 h2
    obtain ⟨ka, e1, e2⟩ := goodS_in h1.2
    obtain ⟨kb, e3, e4⟩ := goodS_in h2.2
    obtain ⟨gb, goff, e5, _⟩ := hx.addr (by omega)
    exact ⟨ka, kb, gb, goff, e1, e3, e2, e4, e5, h1.1⟩
  obtain ⟨wy, hw⟩ : ∃ g, g = wayS ops la ea ra lb eb rb := ⟨_, rfl⟩
  rw [← hw]
  obtain ⟨n, hn⟩ : ∃ n, n = ops.length := ⟨_, rfl⟩
  rw [← hn] at hpa hpb hQ hwy ⊢
  replace hga := Lib.hid hga
  replace hgv := Lib.hid hgv
  replace hn := Lib.hid hn
  replace hw := Lib.hid hw
  replace hwy := Lib.hid hwy
  replace hQ := Lib.hid hQ
  go_enter Tryz.func41, Tryz.ntmps41
  go_wp2_with fail
  have hC : CB w _ ao n cap la ea ra lb eb rb := CB.new
  refine (hpa _ hC.bel).mono ?_
  rintro e w2 ⟨rfl, hb2⟩
  replace hC := hC.below hb2
  clear hb2 hpa
  obtain ⟨c0, c1, c2, c3, c4, c5, c6, cl⟩ := hC.facts
  cases ga with
  | false =>
    dsimp only
    go_wp2_with fail
    go_ret
    refine ⟨?_, hC.bel⟩
    show Ending.returned (Value.bool false) = _
    rfl
  | true =>
    dsimp only
    go_wp2_with fail
    refine (hpb _ hC.bel).mono ?_
    rintro e w3 ⟨rfl, hb2⟩
    replace hC := hC.below hb2
    clear c0 c1 c2 c3 c4 c5 c6 cl hb2 hpb
    obtain ⟨c0, c1, c2, c3, c4, c5, c6, cl⟩ := hC.facts
    cases gv with
    | false =>
      dsimp only
      go_wp2_with fail
      go_ret
      refine ⟨?_, hC.bel⟩
      show Ending.returned (Value.bool false) = _
      rfl
    | true =>
      obtain ⟨ka, kb, gb, goff, rfl, rfl, hka, hkb, rfl, hok⟩ := hwy.out (by trivial) (by trivial)
      have hQ2 := hQ.out hok gb goff rfl ka kb hkb hka
      replace hok := Lib.hid hok
      dsimp only
      by_cases hab : ka = kb
      · have heq : ((ka : Int) == (kb : Int)) = true := by rw [hab]; simp
        have hw2 : wy = leT ⟨ea, ra⟩ ⟨eb, rb⟩ := by rw [hw.out]; unfold wayS; rw [if_pos (by omega)]
        replace hw2 := Lib.hid hw2
        go_wp2_with fail
        refine (rle_any ea ra eb rb _).mono ?_
        rintro e w4 ⟨rfl, hb4⟩
        go_wp2_with fail
        go_ret
        refine ⟨?_, hC.bel.trans (hb4.mono hC.bel.size)⟩
        show Ending.returned (Value.bool (leT ⟨ea, ra⟩ ⟨eb, rb⟩)) = _
        rw [← hw2.out]; rfl
      · have heq : ((ka : Int) == (kb : Int)) = false := by simp; omega
        have hw2 : wy = (rch ops ka kb && decide (ea ≤ eb)) := by rw [hw.out]; unfold wayS; rw [if_neg (by omega), Int.toNat_natCast, Int.toNat_natCast]
        generalize rch ops ka kb = rv at hw2 hQ2
        replace hw2 := Lib.hid hw2
        clear hab
        go_wp2_with fail
        refine (hQ2 _ hC.bel).mono ?_
        rintro e w4 ⟨rfl, hb4⟩
        replace hC := hC.below hb4
        clear c0 c1 c2 c3 c4 c5 c6 cl hb4 hQ2
        obtain ⟨c0, c1, c2, c3, c4, c5, c6, cl⟩ := hC.facts
        cases rv with
        | false =>
          dsimp only
          go_wp2_with fail
          go_ret
          refine ⟨?_, hC.bel⟩
          rw [hw2.out]; rfl
        | true =>
          dsimp only
          go_wp2_with fail
          go_ret
          refine ⟨?_, hC.bel⟩
          rw [hw2.out]
          simp
end Go.Proofs.YtjmbafcpbagpdaaGreat

/- Reach: Next. -/
namespace Go.Proofs.YtjmbafcpbagpdaaGreat
open Go.RowKit Go.Shelf
attribute [local go_sem] Oper.semAt_some
set_option linter.unusedVariables false
set_option linter.unusedSimpArgs false

def encS (x : TStamp) : List Value := [.int .i64 x.fLoc, .int .i64 x.fT.fEpoch, .int .i64 x.fT.fRound]
theorem encS_len (x : TStamp) : (encS x).length = 3 := rfl
theorem encS_one (x : TStamp) : ∀ u ∈ encS x, u.oneCell' = true := by
  intro u hu
  simp only [encS, List.mem_cons, List.not_mem_nil, or_false] at hu
  rcases hu with rfl | rfl | rfl <;> rfl
theorem infoS : (Tryz.prog.info? 59).map (fun i => (i.zero, i.size, i.bytes)) = some (some (.agg #[.int .i64 0, .int .i64 0, .int .i64 0]), 3, 24) := by kernel_rfl

/-- The state of Next: its variables, and the list so far. -/
structure NSt (w wr : World) (ob : Nat) (ao : Option Addr) (n cap : Nat) (l e r : Int) (L : List TStamp) (v : Value) : Prop where
  bel : Below w.heap.size w wr
  g : Blk wr w.heap.size #[.slice ao n cap] 24
  s : Blk wr (w.heap.size + 1) #[.int .i64 l, .int .i64 e, .int .i64 r] 59
  o : Blk wr (ob) #[v] 29
  own : OwnL encS wr (ob + 1) 59 3 v L
  o1 : w.heap.size + 1 < ob
namespace NSt
variable {w wr wr' : World} {ob : Nat} {ao : Option Addr} {n cap : Nat} {l e r : Int} {L : List TStamp} {v : Value}
theorem below (h : NSt w wr ob ao n cap l e r L v) (k : Below wr.heap.size wr wr') : NSt w wr' ob ao n cap l e r L v :=
  ⟨h.bel.trans (k.mono h.bel.size), h.g.below k h.g.lt, h.s.below k h.s.lt, h.o.below k h.o.lt, h.own.below k (Nat.le_refl _), h.o1⟩
theorem chg {S : Nat → Prop} (h : NSt w wr ob ao n cap l e r L v) (k : Chg S wr wr') (hS : ∀ b, S b → b < wr.heap.size → w.heap.size ≤ b ∧ ∀ cs T, ¬ Blk wr b cs T) : NSt w wr' ob ao n cap l e r L v := by
  have hb : ∀ {b cs T}, Blk wr b cs T → ¬ S b := fun hb hs => (hS _ hs hb.lt).2 _ _ hb
  exact ⟨h.bel.trans (k.below h.bel.size (fun b hbl hs => by
      have := h.bel.size
      have := (hS b hs (by omega)).1
      omega)), h.g.chg k (hb h.g), h.s.chg k (hb h.s), h.o.chg k (hb h.o), h.own.chg k (fun g hg hs => by
      rcases h.own.form with ⟨h1, _⟩ | ⟨g', cap, cells, h1, h2, _⟩
      · rw [h1] at hg; cases hg
      · rw [h1] at hg
        obtain rfl : g' = g := by simpa [Value.ownBlock] using hg
        exact hb h2 hs), h.o1⟩
theorem facts (h : NSt w wr ob ao n cap l e r L v) : wr.cell? ⟨w.heap.size, 0, none⟩ = some (.slice ao n cap) ∧
    wr.cell? ⟨w.heap.size + 1, 0, none⟩ = some (.int .i64 l) ∧ wr.cell? ⟨w.heap.size + 1, 1, none⟩ = some (.int .i64 e) ∧ wr.cell? ⟨w.heap.size + 1, 2, none⟩ = some (.int .i64 r) ∧
    wr.cell? ⟨ob, 0, none⟩ = some v ∧ wr.frozen? ⟨ob, 0, none⟩ = false ∧ ob < wr.heap.size :=
  ⟨h.g.cellAt rfl, h.s.cellAt rfl, h.s.cellAt rfl, h.s.cellAt rfl, h.o.cellAt rfl, h.o.frozen 0, h.o.lt⟩
end NSt

end Go.Proofs.YtjmbafcpbagpdaaGreat

/- Reach: the reference's Next; SameStamps. -/
namespace Go.Proofs.YtjmbafcpbagpdaaGreat
open Go.RowKit Go.Shelf
set_option linter.unusedVariables false
set_option linter.unusedSimpArgs false

/-- The variables of the reference's Next. -/
structure MSt (w wr : World) (fb : Nat) (ao : Option Addr) (n cap : Nat) (l e r : Int) : Prop where
  bel : Below w.heap.size w wr
  g : Blk wr w.heap.size #[.slice ao n cap] 24
  s : Blk wr (w.heap.size + 1) #[.int .i64 l, .int .i64 e, .int .i64 r] 59
  f : Blk wr fb #[.int .i64 l, .int .i64 e, .int .i64 (r + 1)] 59
  o1 : w.heap.size + 1 < fb
namespace MSt
variable {w wr wr' : World} {fb : Nat} {ao : Option Addr} {n cap : Nat} {l e r : Int}
theorem below {B : Nat} (h : MSt w wr fb ao n cap l e r) (k : Below B wr wr') (hB : fb < B) : MSt w wr' fb ao n cap l e r := by
  have := h.o1
  exact ⟨h.bel.trans (k.mono (by omega)), h.g.below k (by omega), h.s.below k (by omega), h.f.below k hB, h.o1⟩
theorem facts (h : MSt w wr fb ao n cap l e r) : wr.cell? ⟨w.heap.size, 0, none⟩ = some (.slice ao n cap) ∧
    wr.cell? ⟨w.heap.size + 1, 0, none⟩ = some (.int .i64 l) ∧ wr.cell? ⟨w.heap.size + 1, 1, none⟩ = some (.int .i64 e) ∧ wr.cell? ⟨w.heap.size + 1, 2, none⟩ = some (.int .i64 r) ∧
    wr.cell? ⟨fb, 0, none⟩ = some (.int .i64 l) ∧ wr.cell? ⟨fb, 1, none⟩ = some (.int .i64 e) ∧ wr.cell? ⟨fb, 2, none⟩ = some (.int .i64 (r + 1)) ∧ fb < wr.heap.size :=
  ⟨h.g.cellAt rfl, h.s.cellAt rfl, h.s.cellAt rfl, h.s.cellAt rfl, h.f.cellAt rfl, h.f.cellAt rfl, h.f.cellAt rfl, h.f.lt⟩
end MSt
end Go.Proofs.YtjmbafcpbagpdaaGreat

/- Reach: SameStamps of one list; the chapter's example; ReachCoulds. -/
namespace Go.Proofs.YtjmbafcpbagpdaaGreat
open Go.RowKit Go.Shelf
set_option linter.unusedVariables false
set_option linter.unusedSimpArgs false

theorem rsame_tt (l e r : Int) (w : World) :
    Calls Tryz.prog 22 #[.agg #[.int .i64 l, .int .i64 e, .int .i64 r], .agg #[.int .i64 l, .int .i64 e, .int .i64 r]] w fun x w' => x = .returned (.bool true) ∧ Below w.heap.size w w' := by
  have hs := fun W => same_any e r e r W
  rw [show sameT ⟨e, r⟩ ⟨e, r⟩ = true by simp [sameT]] at hs
  go_enter Tryz.func22, Tryz.ntmps22
  go_wp2_with fail
  refine (hs _).mono ?_
  rintro x w3 ⟨rfl, b3⟩
  have hbel : Below w.heap.size w w3 := (by repeat (first | exact Below.refl _ _ | assumption | refine below_drewN ?_ _ | refine Below.drew ?_ | (refine Below.setCell ?_ (by first | omega | (simp; omega) | simp) _) | (refine Below.alloc ?_ (by first | omega | (simp; omega) | simp) _) | (refine Below.trans ?_ (Below.mono (by assumption) (by first | omega | (simp; omega) | simp)))))
  go_wp2_with fail
  go_ret
  exact ⟨rfl, hbel⟩

def kops : List TOp := [⟨1, [], 0, 0, 0, 0, 0⟩, ⟨7, [0], 0, 0, 3, 0, 0⟩, ⟨8, [1], 0, 0, 0, 0, 0⟩]
def kcells (b0 b1 : Nat) : Array Value := #[.int .i64 1, .slice none 0 0, .int .i64 0, .int .u32 0, .int .i64 0, .int .i64 0, .int .u32 0, .int .i64 7, .slice (some ⟨b0, 0, none⟩) 1 1, .int .i64 0, .int .u32 0, .int .i64 3, .int .i64 0, .int .u32 0,
      .int .i64 8, .slice (some ⟨b1, 0, none⟩) 1 1, .int .i64 0, .int .u32 0, .int .i64 0, .int .i64 0, .int .u32 0]
theorem kops_read {W : World} {B b0 b1 b2 : Nat} (h0 : Blk W b0 #[.int .i64 0] 3) (h1 : Blk W b1 #[.int .i64 1] 3) (h2 : Blk W b2 (kcells b0 b1) 73) (hb0 : b0 < B) (hb1 : b1 < B) (hb2 : b2 < B) :
    SlA B 7 (ROp B) W (some ⟨b2, 0, none⟩) 3 kops := by
  have m1 : (1 : Nat) ≤ maxLen := by unfold maxLen; omega
  unfold kcells at h2
  refine SlA.of_blk h2 hb2 (by decide) (by unfold maxLen; omega) ?_
  intro i hi
  match i, hi with
  | 0, _ => exact ⟨[.int .i64 1, .slice none 0 0, .int .i64 0, .int .u32 0, .int .i64 0, .int .i64 0, .int .u32 0], rfl, fun j hj => (match j, hj with | 0, _ | 1, _ | 2, _ | 3, _ | 4, _ | 5, _ | 6, _ => rfl), none, 0, rfl, rfl, SlA.nil _ _ _ _, rfl, rfl, rfl, rfl, rfl⟩
  | 1, _ => exact ⟨[.int .i64 7, .slice (some ⟨b0, 0, none⟩) 1 1, .int .i64 0, .int .u32 0, .int .i64 3, .int .i64 0, .int .u32 0], rfl, fun j hj => (match j, hj with | 0, _ | 1, _ | 2, _ | 3, _ | 4, _ | 5, _ | 6, _ => rfl), _, 1, rfl, rfl,
      SlA.of_blk1 h0 hb0 (Nat.le_refl 1) m1 (fun i hi => match i, hi with | 0, _ => ⟨rfl, rfl⟩), rfl, rfl, rfl, rfl, rfl⟩
  | 2, _ => exact ⟨[.int .i64 8, .slice (some ⟨b1, 0, none⟩) 1 1, .int .i64 0, .int .u32 0, .int .i64 0, .int .i64 0, .int .u32 0], rfl, fun j hj => (match j, hj with | 0, _ | 1, _ | 2, _ | 3, _ | 4, _ | 5, _ | 6, _ => rfl), _, 1, rfl, rfl,
      SlA.of_blk1 h1 hb1 (Nat.le_refl 1) m1 (fun i hi => match i, hi with | 0, _ => ⟨rfl, rfl⟩), rfl, rfl, rfl, rfl, rfl⟩
/-- The example's variables. -/
structure KSt (w wr : World) (N : Nat) : Prop where
  bel : Below w.heap.size w wr
  b0 : Blk wr N #[.int .i64 0] 3
  b1 : Blk wr (N + 1) #[.int .i64 1] 3
  b2 : Blk wr (N + 1 + 1) (kcells N (N + 1)) 73
  g : Blk wr (N + 1 + 1 + 1) #[.slice (some ⟨N + 1 + 1, 0, none⟩) 3 3] 24
  s : Blk wr (N + 1 + 1 + 1 + 1) #[.int .i64 1, .int .i64 4, .int .i64 0] 59
theorem KSt.below {w wr wr' : World} {N : Nat} (h : KSt w wr N) (k : Below wr.heap.size wr wr') : KSt w wr' N :=
  ⟨h.bel.trans (k.mono h.bel.size), h.b0.below k h.b0.lt, h.b1.below k h.b1.lt, h.b2.below k h.b2.lt, h.g.below k h.g.lt, h.s.below k h.s.lt⟩
theorem KSt.read {w wr : World} {N : Nat} (h : KSt w wr N) : SlA wr.heap.size 7 (ROp wr.heap.size) wr (some ⟨N + 1 + 1, 0, none⟩) 3 kops := kops_read h.b0 h.b1 h.b2 h.b0.lt h.b1.lt h.b2.lt
theorem blk_at {w : World} {cs : Array Value} {T : TypeId} {N : Nat} (h : w.heap.size = N) : Blk (w.alloc (.cells cs T)) N cs T := h ▸ Blk.new w cs T
theorem KSt.new (w : World) (N : Nat) (hN : N = w.heap.size) : KSt w (((((w.alloc (.cells #[.int .i64 0] 3)).alloc (.cells #[.int .i64 1] 3)).alloc (.cells (kcells N (N + 1)) 73)).alloc (.cells #[.slice (some ⟨N + 1 + 1, 0, none⟩) 3 3] 24)).alloc (.cells #[.int .i64 1, .int .i64 4, .int .i64 0] 59)) N := by
  subst hN
  generalize hK : kcells w.heap.size (w.heap.size + 1) = K
  refine ⟨(((((Below.refl _ w).alloc (Nat.le_refl _) _).alloc (by simp) _).alloc (by simp; omega) _).alloc (by simp; omega) _).alloc (by simp; omega) _, ((((Blk.new _ _ _).alloc _).alloc _).alloc _).alloc _, (((blk_at (by simp)).alloc _).alloc _).alloc _, ?_, (blk_at (by simp)).alloc _, blk_at (by simp)⟩
  rw [hK]
  exact ((blk_at (by simp)).alloc _).alloc _

end Go.Proofs.YtjmbafcpbagpdaaGreat

/- Reach: what could come goes on: plain Lean; the walk of ReachGoes. -/
namespace Go.Proofs.YtjmbafcpbagpdaaGreat
open Go.RowKit Go.Shelf
set_option linter.unusedVariables false
set_option linter.unusedSimpArgs false

theorem couldS_mk {ops : List TOp} {la ea ra lb eb rb : Int} (h1 : (gcheck ops).2 = 0) (h2 : goodS ops la ea ra = true) (h3 : goodS ops lb eb rb = true) (h4 : wayS ops la ea ra lb eb rb = true) : couldS ops la ea ra lb eb rb = true := by
  unfold couldS
  rw [decide_eq_true h1, h2, h3, h4]
  rfl
namespace GSt
variable {w wr wr' : World} {ao : Option Addr} {n cap : Nat} {l0 e0 r0 l1 e1 r1 l2 e2 r2 : Int}
end GSt

end Go.Proofs.YtjmbafcpbagpdaaGreat
