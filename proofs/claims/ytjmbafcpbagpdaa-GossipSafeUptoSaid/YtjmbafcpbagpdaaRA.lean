/- Reach: what a right pointstamp is: good, Good, the reference's Good. -/
import Derived.Test.YtjmbafcpbagpdaaGB
import Derived.Test.YtjmbafcpbagpdaaGA
import Derived.Test.YtjmbafcpbagpdaaTyReach
import Derived.Test.YtjmbafcpbagpdaaSA
import Derived.Test.YtjmbafcpbagpdaaL2
import Derived.Deep.Cut
import Derived.Deep.CutRange
import Derived.Deep.RegionHeld3
import Derived.Test.YtjmbafcpbagpdaaL1
namespace Go.Proofs.Ytjmbafcpbagpdaa
open Go.RowKit
set_option linter.unusedVariables false
set_option linter.unusedSimpArgs false

def opAt (ops : List TOp) (l : Int) : TOp := (ops[l.toNat]?).getD ⟨0, [], 0, 0, 0, 0, 0⟩
def goodS (ops : List TOp) (l e r : Int) : Bool := decide (0 ≤ l ∧ l < ops.length) && goodT ⟨e, r⟩ && (decide (r = 0) || (decide ((opAt ops l).fKind = 7) && decide (r < (opAt ops l).fRounds)))
theorem opAt_get {ops : List TOp} {k : Nat} {o : TOp} (h : ops[k]? = some o) : opAt ops (k : Int) = o := by
  unfold opAt
  rw [Int.toNat_natCast, h]
  rfl
theorem goodS_out {ops : List TOp} {l e r : Int} (h : ¬ (0 ≤ l ∧ l < ops.length)) : goodS ops l e r = false := by
  unfold goodS
  rw [decide_eq_false h, Bool.false_and, Bool.false_and]
theorem goodS_bad {ops : List TOp} {l e r : Int} (h : goodT ⟨e, r⟩ = false) : goodS ops l e r = false := by
  unfold goodS
  rw [h, Bool.and_false, Bool.false_and]
theorem goodS_at {ops : List TOp} {k : Nat} {e r : Int} {o : TOp} (h : ops[k]? = some o) (hg : goodT ⟨e, r⟩ = true) : goodS ops k e r = (decide (r = 0) || (decide (o.fKind = 7) && decide (r < o.fRounds))) := by
  have hk := (List.getElem?_eq_some_iff.1 h).1
  unfold goodS
  rw [opAt_get h, hg, decide_eq_true (by omega), Bool.true_and, Bool.true_and]
theorem goodT_nn {e r : Int} (h : goodT ⟨e, r⟩ = true) : 0 ≤ e ∧ 0 ≤ r := by unfold goodT at h; exact of_decide_eq_true h

set_option maxRecDepth 100000 in
set_option maxHeartbeats 2000000 in
theorem pgood_any (ops : List TOp) (cap : Nat) (ao : Option Addr) (l e r : Int) (B : Nat) (w : World) (hB : B ≤ w.heap.size) (hx : SlA B 7 (ROp B) w ao cap ops) :
    Calls Try.prog 44 #[.agg #[.slice ao ops.length cap], .agg #[.int .i64 l, .int .i64 e, .int .i64 r]] w fun x w' => x = .returned (.bool (goodS ops l e r)) ∧ Below w.heap.size w w' := by
  have hlen := hx.len
  have hgd := fun W => good_any e r W
  obtain ⟨n, hn⟩ : ∃ n, n = ops.length := ⟨_, rfl⟩
  by_cases hin : 0 ≤ l ∧ l < ops.length
  · obtain ⟨k, rfl⟩ : ∃ k : Nat, l = k := ⟨l.toNat, by omega⟩
    have hk : k < ops.length := by omega
    obtain ⟨gb, goff, rfl, hgb, hq⟩ := hx.addr (by omega)
    clear hq
    obtain ⟨o, ho⟩ : ∃ o, ops[k] = o := ⟨_, rfl⟩
    have hok : ops[k]? = some o := by rw [List.getElem?_eq_getElem hk, ho]
    obtain ⟨ao1, cap1, e0, e1, e2, e3, e4, e5, e6, z0, hin1, z2, z3, z4, z5, z6⟩ := ROp.at hx hk ho
    have hgw : gb < w.heap.size := by omega
    rw [← hn] at hk hin hlen ⊢
    have d1 : decide ((k : Int) < 0) = false := by simp
    have d2 : decide ((n : Int) ≤ (k : Int)) = false := by simp; omega
    have d3 : decide (n ≤ k) = false := by simp; omega
    replace hn := Lib.hid hn
    cases hg : goodT ⟨e, r⟩ with
    | false =>
      rw [goodS_bad hg]
      rw [hg] at hgd
      clear hok ho hin1 hg
      go_enter Try.func44, Try.ntmps44
      go_wp2_with fail
      refine (hgd _).mono ?_
      rintro x w3 ⟨rfl, b3⟩
      have hbel : Below w.heap.size w w3 := (by repeat (first | exact Below.refl _ _ | assumption | refine below_drewN ?_ _ | refine Below.drew ?_ | (refine Below.setCell ?_ (by first | omega | (simp; omega) | simp) _) | (refine Below.alloc ?_ (by first | omega | (simp; omega) | simp) _) | (refine Below.trans ?_ (Below.mono (by assumption) (by first | omega | (simp; omega) | simp)))))
      go_wp2_with fail
      go_ret
      exact ⟨rfl, hbel⟩
    | true =>
      rw [goodS_at hok hg]
      rw [hg] at hgd
      have hnn := goodT_nn hg
      obtain ⟨il, hil⟩ : ∃ il, il = o.fIn.length := ⟨_, rfl⟩
      rw [← hil] at e1
      clear hok ho hin1 hg hil
      generalize o.fKind = ki at e0 ⊢
      generalize o.fRounds = ro at e4 ⊢
      generalize o.fArg = q2 at e2
      generalize o.fNum = q3 at e3
      generalize o.fTest = q5 at e5
      generalize o.fLim = q6 at e6
      have d4 : decide (r = 0) = (r == 0) := by by_cases h : r = 0 <;> simp [h]
      have d5 : decide (ki = 7) = (ki == 7) := by by_cases h : ki = 7 <;> simp [h]
      rw [d4, d5]
      clear d4 d5
      have hl2 : ∀ W : World, Below w.heap.size w W → W.cell? ⟨gb, goff + k * 7, none⟩ = some (.int .i64 ki) ∧ W.cell? ⟨gb, goff + k * 7 + 1, none⟩ = some (.slice ao1 il cap1) ∧ W.cell? ⟨gb, goff + k * 7 + 2, none⟩ = some (.int .i64 q2) ∧ W.cell? ⟨gb, goff + k * 7 + 3, none⟩ = some (.int .u32 q3) ∧ W.cell? ⟨gb, goff + k * 7 + 4, none⟩ = some (.int .i64 ro) ∧ W.cell? ⟨gb, goff + k * 7 + 5, none⟩ = some (.int .i64 q5) ∧ W.cell? ⟨gb, goff + k * 7 + 6, none⟩ = some (.int .u32 q6) := fun W hb => by
        have hc := fun o : Nat => hb.cell (p := ⟨gb, o, none⟩) hgw
        exact ⟨by rw [hc]; exact e0, by rw [hc]; exact e1, by rw [hc]; exact e2, by rw [hc]; exact e3, by rw [hc]; exact e4, by rw [hc]; exact e5, by rw [hc]; exact e6⟩
      replace hl2 := Lib.hid hl2
      go_enter Try.func44, Try.ntmps44
      go_wp2_with fail
      refine (hgd _).mono ?_
      rintro x w3 ⟨rfl, b3⟩
      have hbel : Below w.heap.size w w3 := (by repeat (first | exact Below.refl _ _ | assumption | refine below_drewN ?_ _ | refine Below.drew ?_ | (refine Below.setCell ?_ (by first | omega | (simp; omega) | simp) _) | (refine Below.alloc ?_ (by first | omega | (simp; omega) | simp) _) | (refine Below.trans ?_ (Below.mono (by assumption) (by first | omega | (simp; omega) | simp)))))
      have hG3 : Blk w3 w.heap.size #[.slice (some ⟨gb, goff, none⟩) n cap] 24 := ((Blk.new _ _ _).alloc _).below b3 (by simp; omega)
      have hS3 : Blk w3 (w.heap.size + 1) #[.int .i64 k, .int .i64 e, .int .i64 r] 47 := by
        have := Blk.new (w.alloc (.cells #[.slice (some ⟨gb, goff, none⟩) n cap] 24)) #[.int .i64 k, .int .i64 e, .int .i64 r] 47
        rw [World.size_alloc] at this
        exact this.below b3 (by simp)
      have g0 := hG3.cellAt (i := 0) (v := .slice (some ⟨gb, goff, none⟩) n cap) rfl
      have s0 := hS3.cellAt (i := 0) (v := .int .i64 k) rfl
      have s1 := hS3.cellAt (i := 1) (v := .int .i64 e) rfl
      have s2 := hS3.cellAt (i := 2) (v := .int .i64 r) rfl
      have g0l := hG3.lt
      have s0l := hS3.lt
      obtain ⟨f0, f1, f2, f3, f4, f5, f6⟩ := hl2.out w3 hbel
      clear e0 e1 e2 e3 e4 e5 e6 b3 hG3 hS3
      have hgw3 : gb < w3.heap.size := by omega
      have hbel4 := fun o => hbel.alloc hbel.size o
      cases c1 : (r == 0) with
      | true =>
        go_wp2_with fail
        go_ret
        refine ⟨?_, hbel4 _⟩
        show Ending.returned (Value.bool true) = _
        simp [c1]
      | false =>
        cases c2 : (ki == 7) with
        | true =>
          go_wp2_with fail
          go_ret
          refine ⟨?_, hbel4 _⟩
          show Ending.returned (Value.bool (decide (r < ro))) = _
          simp [c1, c2]
        | false =>
          go_wp2_with fail
          go_ret
          refine ⟨?_, hbel4 _⟩
          show Ending.returned (Value.bool false) = _
          simp [c1, c2]
  · rw [goodS_out hin, ← hn]
    rw [← hn] at hin hlen
    clear hgd
    by_cases hl : l < 0
    · have d1 : decide (l < 0) = true := by simpa using hl
      go_enter Try.func44, Try.ntmps44
      go_wp2_with fail
      go_ret
      exact ⟨rfl, (by repeat (first | exact Below.refl _ _ | assumption | refine below_drewN ?_ _ | refine Below.drew ?_ | (refine Below.setCell ?_ (by first | omega | (simp; omega) | simp) _) | (refine Below.alloc ?_ (by first | omega | (simp; omega) | simp) _) | (refine Below.trans ?_ (Below.mono (by assumption) (by first | omega | (simp; omega) | simp)))))⟩
    · have d1 : decide (l < 0) = false := by simpa using hl
      have d2 : decide ((n : Int) ≤ l) = true := by simp; omega
      have hl0 : 0 ≤ l := by omega
      go_enter Try.func44, Try.ntmps44
      go_wp2_with fail
      go_ret
      exact ⟨rfl, (by repeat (first | exact Below.refl _ _ | assumption | refine below_drewN ?_ _ | refine Below.drew ?_ | (refine Below.setCell ?_ (by first | omega | (simp; omega) | simp) _) | (refine Below.alloc ?_ (by first | omega | (simp; omega) | simp) _) | (refine Below.trans ?_ (Below.mono (by assumption) (by first | omega | (simp; omega) | simp)))))⟩

set_option maxRecDepth 100000 in
set_option maxHeartbeats 2000000 in
/-- Good: the graph right, the pointstamp right. -/
theorem Good_any (ops : List TOp) (cap : Nat) (ao : Option Addr) (l e r : Int) (B : Nat) (w : World) (hB : B ≤ w.heap.size) (hx : SlA B 7 (ROp B) w ao cap ops) :
    Calls Try.prog 28 #[.agg #[.slice ao ops.length cap], .agg #[.int .i64 l, .int .i64 e, .int .i64 r]] w fun x w' => x = .returned (.bool (decide ((gcheck ops).2 = 0) && goodS ops l e r)) ∧ Below w.heap.size w w' := by
  have hg := fun W hb => gcheck_all ops cap ao W B (Nat.le_trans hB (Below.size hb)) (imp_ops hx (hb.mono hB))
  have hp := fun W hb => pgood_any ops cap ao l e r B W (Nat.le_trans hB (Below.size hb)) (imp_ops hx (hb.mono hB))
  generalize ops.length = n at hg hp ⊢
  obtain ⟨er, her⟩ : ∃ er, er = (gcheck ops).2 := ⟨_, rfl⟩
  rw [← her] at hg ⊢
  generalize goodS ops l e r = gv at hp ⊢
  replace her := Lib.hid her
  by_cases h0 : er = 0
  · subst h0
    rw [show (decide ((0 : Nat) = 0) && gv) = gv by simp]
    go_enter Try.func28, Try.ntmps28
    go_wp2_with fail
    refine (hg _ ((by repeat (first | exact Below.refl _ _ | assumption | refine below_drewN ?_ _ | refine Below.drew ?_ | (refine Below.setCell ?_ (by first | omega | (simp; omega) | simp) _) | (refine Below.alloc ?_ (by first | omega | (simp; omega) | simp) _) | (refine Below.trans ?_ (Below.mono (by assumption) (by first | omega | (simp; omega) | simp))))))).mono ?_
    rintro x w3 ⟨rfl, b3⟩
    have hbel : Below w.heap.size w w3 := (by repeat (first | exact Below.refl _ _ | assumption | refine below_drewN ?_ _ | refine Below.drew ?_ | (refine Below.setCell ?_ (by first | omega | (simp; omega) | simp) _) | (refine Below.alloc ?_ (by first | omega | (simp; omega) | simp) _) | (refine Below.trans ?_ (Below.mono (by assumption) (by first | omega | (simp; omega) | simp)))))
    have hG3 : Blk w3 w.heap.size #[.slice ao n cap] 24 := ((Blk.new _ _ _).alloc _).below b3 (by simp; omega)
    have hS3 : Blk w3 (w.heap.size + 1) #[.int .i64 l, .int .i64 e, .int .i64 r] 47 := by
      have := Blk.new (w.alloc (.cells #[.slice ao n cap] 24)) #[.int .i64 l, .int .i64 e, .int .i64 r] 47
      rw [World.size_alloc] at this
      exact this.below b3 (by simp)
    have g0 := hG3.cellAt (i := 0) (v := .slice ao n cap) rfl
    have s0 := hS3.cellAt (i := 0) (v := .int .i64 l) rfl
    have s1 := hS3.cellAt (i := 1) (v := .int .i64 e) rfl
    have s2 := hS3.cellAt (i := 2) (v := .int .i64 r) rfl
    clear hG3 hS3 b3 hg
    go_wp2_with fail
    refine (hp _ hbel).mono ?_
    rintro x w4 ⟨rfl, b4⟩
    go_wp2_with fail
    go_ret
    exact ⟨rfl, hbel.trans (b4.mono hbel.size)⟩
  · have hne : ((er : Int) == 0) = false := by simpa using h0
    rw [show (decide (er = 0) && gv) = false by simp [h0]]
    clear h0
    go_enter Try.func28, Try.ntmps28
    go_wp2_with fail
    refine (hg _ ((by repeat (first | exact Below.refl _ _ | assumption | refine below_drewN ?_ _ | refine Below.drew ?_ | (refine Below.setCell ?_ (by first | omega | (simp; omega) | simp) _) | (refine Below.alloc ?_ (by first | omega | (simp; omega) | simp) _) | (refine Below.trans ?_ (Below.mono (by assumption) (by first | omega | (simp; omega) | simp))))))).mono ?_
    rintro x w3 ⟨rfl, b3⟩
    have hbel : Below w.heap.size w w3 := (by repeat (first | exact Below.refl _ _ | assumption | refine below_drewN ?_ _ | refine Below.drew ?_ | (refine Below.setCell ?_ (by first | omega | (simp; omega) | simp) _) | (refine Below.alloc ?_ (by first | omega | (simp; omega) | simp) _) | (refine Below.trans ?_ (Below.mono (by assumption) (by first | omega | (simp; omega) | simp)))))
    go_wp2_with fail
    go_ret
    exact ⟨rfl, hbel⟩
end Go.Proofs.Ytjmbafcpbagpdaa

/- Reach: the reference's Good. -/
namespace Go.Proofs.Ytjmbafcpbagpdaa
open Go.RowKit
set_option linter.unusedVariables false
set_option linter.unusedSimpArgs false

theorem ok_at {ops : List TOp} (h : (gcheck ops).2 = 0) {k : Nat} {o : TOp} (ho : ops[k]? = some o) : okB o k ops.length = true := by
  obtain ⟨hb, rfl⟩ := List.getElem?_eq_some_iff.1 ho
  unfold gcheck at h
  by_cases hl : ops.length < 1 ∨ 16 < ops.length
  · rw [if_pos hl] at h; simp at h
  rw [if_neg hl] at h
  cases hbf : badFrom ops.length ops 0 with
  | some i => rw [hbf] at h; simp at h
  | none => simpa using badFrom_some ops 0 hbf k hb
theorem rounds_at {ops : List TOp} (h : (gcheck ops).2 = 0) {k : Nat} {o : TOp} (ho : ops[k]? = some o) (h7 : o.fKind = 7) : 1 ≤ o.fRounds ∧ o.fRounds ≤ 16 := by
  have h1 := ok_at h ho
  unfold okB at h1
  simp only [Bool.and_eq_true] at h1
  have h2 : formB o = true := h1.1.1.1
  unfold formB at h2
  rw [h7] at h2
  simp at h2
  omega

set_option maxRecDepth 100000 in
set_option maxHeartbeats 2000000 in
theorem rGood_any (ops : List TOp) (cap : Nat) (ao : Option Addr) (l e r : Int) (B : Nat) (w : World) (hB : B ≤ w.heap.size) (hx : SlA B 7 (ROp B) w ao cap ops) :
    Calls Try.prog 41 #[.agg #[.slice ao ops.length cap], .agg #[.int .i64 l, .int .i64 e, .int .i64 r]] w fun x w' => x = .returned (.bool (decide ((gcheck ops).2 = 0) && goodS ops l e r)) ∧ Below w.heap.size w w' := by
  have hg := fun W hb => rcheck_all ops cap ao W B (Nat.le_trans hB (Below.size hb)) (imp_ops hx (hb.mono hB))
  have hgd := fun W => rgood_any e r W
  have hlen := hx.len
  obtain ⟨n, hn⟩ : ∃ n, n = ops.length := ⟨_, rfl⟩
  rw [← hn] at hg hlen ⊢
  obtain ⟨er, her⟩ : ∃ er, er = (gcheck ops).2 := ⟨_, rfl⟩
  rw [← her] at hg ⊢
  by_cases h0 : er = 0
  · subst h0
    rw [show (decide ((0 : Nat) = 0) && goodS ops l e r) = goodS ops l e r by simp]
    by_cases hin : 0 ≤ l ∧ l < n
    · obtain ⟨k, rfl⟩ : ∃ k : Nat, l = k := ⟨l.toNat, by omega⟩
      have hk : k < ops.length := by omega
      obtain ⟨gb, goff, rfl, hgb, hq⟩ := hx.addr (by omega)
      clear hq
      obtain ⟨o, ho⟩ : ∃ o, ops[k] = o := ⟨_, rfl⟩
      have hok : ops[k]? = some o := by rw [List.getElem?_eq_getElem hk, ho]
      have hr7 := rounds_at her.symm hok
      have hl2 : ∀ W : World, Below w.heap.size w W → W.cell? ⟨gb, goff + k * 7, none⟩ = some (.int .i64 o.fKind) ∧ W.cell? ⟨gb, goff + k * 7 + 4, none⟩ = some (.int .i64 o.fRounds) := fun W hb => by
        obtain ⟨ao1, cap1, e0, e1, e2, e3, e4, _⟩ := ROp.at (imp_ops hx (hb.mono hB)) hk ho
        exact ⟨e0, e4⟩
      have hgw : gb < w.heap.size := by omega
      have d1 : decide ((k : Int) < 0) = false := by simp
      have d2 : decide ((n : Int) ≤ (k : Int)) = false := by simp; omega
      have d3 : decide (n ≤ k) = false := by simp; omega
      replace hn := Lib.hid hn
      replace her := Lib.hid her
      replace hl2 := Lib.hid hl2
      cases hgt : goodT ⟨e, r⟩ with
      | false =>
        rw [goodS_bad hgt]
        rw [hgt] at hgd
        clear hok ho hgt hr7 hl2
        go_enter Try.func41, Try.ntmps41
        go_wp2_with fail
        refine (hg _ ((by repeat (first | exact Below.refl _ _ | assumption | refine below_drewN ?_ _ | refine Below.drew ?_ | (refine Below.setCell ?_ (by first | omega | (simp; omega) | simp) _) | (refine Below.alloc ?_ (by first | omega | (simp; omega) | simp) _) | (refine Below.trans ?_ (Below.mono (by assumption) (by first | omega | (simp; omega) | simp))))))).mono ?_
        rintro x w2 ⟨rfl, b2⟩
        have hbel2 : Below w.heap.size w w2 := (by repeat (first | exact Below.refl _ _ | assumption | refine below_drewN ?_ _ | refine Below.drew ?_ | (refine Below.setCell ?_ (by first | omega | (simp; omega) | simp) _) | (refine Below.alloc ?_ (by first | omega | (simp; omega) | simp) _) | (refine Below.trans ?_ (Below.mono (by assumption) (by first | omega | (simp; omega) | simp)))))
        have hG3 : Blk w2 w.heap.size #[.slice (some ⟨gb, goff, none⟩) n cap] 24 := ((Blk.new _ _ _).alloc _).below b2 (by simp; omega)
        have hS3 : Blk w2 (w.heap.size + 1) #[.int .i64 k, .int .i64 e, .int .i64 r] 47 := by
          have := Blk.new (w.alloc (.cells #[.slice (some ⟨gb, goff, none⟩) n cap] 24)) #[.int .i64 k, .int .i64 e, .int .i64 r] 47
          rw [World.size_alloc] at this
          exact this.below b2 (by simp)
        have g0 := hG3.cellAt (i := 0) (v := .slice (some ⟨gb, goff, none⟩) n cap) rfl
        have s0 := hS3.cellAt (i := 0) (v := .int .i64 k) rfl
        have s1 := hS3.cellAt (i := 1) (v := .int .i64 e) rfl
        have s2 := hS3.cellAt (i := 2) (v := .int .i64 r) rfl
        clear hG3 hS3 b2 hg
        go_wp2_with fail
        refine (hgd _).mono ?_
        rintro x w3 ⟨rfl, b3⟩
        go_wp2_with fail
        go_ret
        exact ⟨rfl, hbel2.trans (b3.mono hbel2.size)⟩
      | true =>
        rw [goodS_at hok hgt]
        rw [hgt] at hgd
        have hnn := goodT_nn hgt
        clear hok ho hgt
        generalize o.fKind = ki at hl2 hr7 ⊢
        generalize o.fRounds = ro at hl2 hr7 ⊢
        obtain ⟨v, hv⟩ : ∃ v, v = (decide (r = 0) || (decide (ki = 7) && decide (r < ro))) := ⟨_, rfl⟩
        rw [← hv]
        have hv7 : ki = 7 → decide (r ≤ ro - 1) = v := fun h => by
          have := hr7 h
          rw [hv, decide_eq_true h, Bool.true_and]
          by_cases h2 : r ≤ ro - 1
          · rw [decide_eq_true h2, decide_eq_true (show r < ro by omega), Bool.or_true]
          · rw [decide_eq_false h2, decide_eq_false (show ¬ r < ro by omega), decide_eq_false (show ¬ r = 0 by omega)]; rfl
        have hv8 : ki ≠ 7 → decide (r ≤ 0) = v := fun h => by
          rw [hv, decide_eq_false h, Bool.false_and, Bool.or_false]
          by_cases h2 : r = 0
          · subst h2; rfl
          · rw [decide_eq_false h2, decide_eq_false (by omega)]
        clear hv
        replace hv7 := Lib.hid hv7
        replace hv8 := Lib.hid hv8
        replace hr7 := Lib.hid hr7
        go_enter Try.func41, Try.ntmps41
        go_wp2_with fail
        refine (hg _ ((by repeat (first | exact Below.refl _ _ | assumption | refine below_drewN ?_ _ | refine Below.drew ?_ | (refine Below.setCell ?_ (by first | omega | (simp; omega) | simp) _) | (refine Below.alloc ?_ (by first | omega | (simp; omega) | simp) _) | (refine Below.trans ?_ (Below.mono (by assumption) (by first | omega | (simp; omega) | simp))))))).mono ?_
        rintro x w2 ⟨rfl, b2⟩
        have hbel2 : Below w.heap.size w w2 := (by repeat (first | exact Below.refl _ _ | assumption | refine below_drewN ?_ _ | refine Below.drew ?_ | (refine Below.setCell ?_ (by first | omega | (simp; omega) | simp) _) | (refine Below.alloc ?_ (by first | omega | (simp; omega) | simp) _) | (refine Below.trans ?_ (Below.mono (by assumption) (by first | omega | (simp; omega) | simp)))))
        have hG3 : Blk w2 w.heap.size #[.slice (some ⟨gb, goff, none⟩) n cap] 24 := ((Blk.new _ _ _).alloc _).below b2 (by simp; omega)
        have hS3 : Blk w2 (w.heap.size + 1) #[.int .i64 k, .int .i64 e, .int .i64 r] 47 := by
          have := Blk.new (w.alloc (.cells #[.slice (some ⟨gb, goff, none⟩) n cap] 24)) #[.int .i64 k, .int .i64 e, .int .i64 r] 47
          rw [World.size_alloc] at this
          exact this.below b2 (by simp)
        have g0 := hG3.cellAt (i := 0) (v := .slice (some ⟨gb, goff, none⟩) n cap) rfl
        have s0 := hS3.cellAt (i := 0) (v := .int .i64 k) rfl
        have s1 := hS3.cellAt (i := 1) (v := .int .i64 e) rfl
        have s2 := hS3.cellAt (i := 2) (v := .int .i64 r) rfl
        clear b2 hg
        go_wp2_with fail
        refine (hgd _).mono ?_
        rintro x w3 ⟨rfl, b3⟩
        have hbel3 := hbel2.trans (b3.mono hbel2.size)
        replace hG3 := hG3.below b3 hG3.lt
        replace hS3 := hS3.below b3 hS3.lt
        clear g0 s0 s1 s2 b3 hbel2
        have g0 := hG3.cellAt (i := 0) (v := .slice (some ⟨gb, goff, none⟩) n cap) rfl
        have s0 := hS3.cellAt (i := 0) (v := .int .i64 k) rfl
        have s1 := hS3.cellAt (i := 1) (v := .int .i64 e) rfl
        have s2 := hS3.cellAt (i := 2) (v := .int .i64 r) rfl
        obtain ⟨f0, f4⟩ := hl2.out w3 hbel3
        clear hG3 hS3
        by_cases h7 : ki = 7
        · have hr := hr7.out h7
          have c7 : (ki == 7) = true := by simpa using h7
          go_wp2_with fail
          go_ret
          refine ⟨?_, hbel3⟩
          show Ending.returned (Value.bool (decide (r ≤ ro - 1))) = _
          rw [hv7.out h7]
        · have c7 : (ki == 7) = false := by simpa using h7
          go_wp2_with fail
          go_ret
          refine ⟨?_, hbel3⟩
          show Ending.returned (Value.bool (decide (r ≤ 0))) = _
          rw [hv8.out h7]
    · rw [goodS_out (by rw [← hn]; exact hin)]
      replace hn := Lib.hid hn
      replace her := Lib.hid her
      clear hgd
      by_cases hl : l < 0
      · have d1 : decide (l < 0) = true := by simpa using hl
        go_enter Try.func41, Try.ntmps41
        go_wp2_with fail
        refine (hg _ ((by repeat (first | exact Below.refl _ _ | assumption | refine below_drewN ?_ _ | refine Below.drew ?_ | (refine Below.setCell ?_ (by first | omega | (simp; omega) | simp) _) | (refine Below.alloc ?_ (by first | omega | (simp; omega) | simp) _) | (refine Below.trans ?_ (Below.mono (by assumption) (by first | omega | (simp; omega) | simp))))))).mono ?_
        rintro x w2 ⟨rfl, b2⟩
        have hbel2 : Below w.heap.size w w2 := (by repeat (first | exact Below.refl _ _ | assumption | refine below_drewN ?_ _ | refine Below.drew ?_ | (refine Below.setCell ?_ (by first | omega | (simp; omega) | simp) _) | (refine Below.alloc ?_ (by first | omega | (simp; omega) | simp) _) | (refine Below.trans ?_ (Below.mono (by assumption) (by first | omega | (simp; omega) | simp)))))
        have hS3 : Blk w2 (w.heap.size + 1) #[.int .i64 l, .int .i64 e, .int .i64 r] 47 := by
          have := Blk.new (w.alloc (.cells #[.slice ao n cap] 24)) #[.int .i64 l, .int .i64 e, .int .i64 r] 47
          rw [World.size_alloc] at this
          exact this.below b2 (by simp)
        have s0 := hS3.cellAt (i := 0) (v := .int .i64 l) rfl
        clear hg hS3 b2
        go_wp2_with fail
        go_ret
        exact ⟨rfl, hbel2⟩
      · have d1 : decide (l < 0) = false := by simpa using hl
        have d2 : decide ((n : Int) ≤ l) = true := by simp; omega
        go_enter Try.func41, Try.ntmps41
        go_wp2_with fail
        refine (hg _ ((by repeat (first | exact Below.refl _ _ | assumption | refine below_drewN ?_ _ | refine Below.drew ?_ | (refine Below.setCell ?_ (by first | omega | (simp; omega) | simp) _) | (refine Below.alloc ?_ (by first | omega | (simp; omega) | simp) _) | (refine Below.trans ?_ (Below.mono (by assumption) (by first | omega | (simp; omega) | simp))))))).mono ?_
        rintro x w2 ⟨rfl, b2⟩
        have hbel2 : Below w.heap.size w w2 := (by repeat (first | exact Below.refl _ _ | assumption | refine below_drewN ?_ _ | refine Below.drew ?_ | (refine Below.setCell ?_ (by first | omega | (simp; omega) | simp) _) | (refine Below.alloc ?_ (by first | omega | (simp; omega) | simp) _) | (refine Below.trans ?_ (Below.mono (by assumption) (by first | omega | (simp; omega) | simp)))))
        have hG3 : Blk w2 w.heap.size #[.slice ao n cap] 24 := ((Blk.new _ _ _).alloc _).below b2 (by simp; omega)
        have hS3 : Blk w2 (w.heap.size + 1) #[.int .i64 l, .int .i64 e, .int .i64 r] 47 := by
          have := Blk.new (w.alloc (.cells #[.slice ao n cap] 24)) #[.int .i64 l, .int .i64 e, .int .i64 r] 47
          rw [World.size_alloc] at this
          exact this.below b2 (by simp)
        have g0 := hG3.cellAt (i := 0) (v := .slice ao n cap) rfl
        have s0 := hS3.cellAt (i := 0) (v := .int .i64 l) rfl
        clear hg hG3 hS3 b2
        go_wp2_with fail
        go_ret
        exact ⟨rfl, hbel2⟩
  · have hne : ((er : Int) != 0) = true := by simpa using h0
    rw [show (decide (er = 0) && goodS ops l e r) = false by simp [h0]]
    replace hn := Lib.hid hn
    replace her := Lib.hid her
    clear h0 hgd
    go_enter Try.func41, Try.ntmps41
    go_wp2_with fail
    refine (hg _ ((by repeat (first | exact Below.refl _ _ | assumption | refine below_drewN ?_ _ | refine Below.drew ?_ | (refine Below.setCell ?_ (by first | omega | (simp; omega) | simp) _) | (refine Below.alloc ?_ (by first | omega | (simp; omega) | simp) _) | (refine Below.trans ?_ (Below.mono (by assumption) (by first | omega | (simp; omega) | simp))))))).mono ?_
    rintro x w3 ⟨rfl, b3⟩
    have hbel : Below w.heap.size w w3 := (by repeat (first | exact Below.refl _ _ | assumption | refine below_drewN ?_ _ | refine Below.drew ?_ | (refine Below.setCell ?_ (by first | omega | (simp; omega) | simp) _) | (refine Below.alloc ?_ (by first | omega | (simp; omega) | simp) _) | (refine Below.trans ?_ (Below.mono (by assumption) (by first | omega | (simp; omega) | simp)))))
    go_wp2_with fail
    go_ret
    exact ⟨rfl, hbel⟩
end Go.Proofs.Ytjmbafcpbagpdaa

/- Reach: Could, and the reference's Could. -/
namespace Go.Proofs.Ytjmbafcpbagpdaa
open Go.RowKit
set_option linter.unusedVariables false
set_option linter.unusedSimpArgs false

noncomputable def wayS (ops : List TOp) (la ea ra lb eb rb : Int) : Bool := if la = lb then leT ⟨ea, ra⟩ ⟨eb, rb⟩ else rch ops la.toNat lb.toNat && decide (ea ≤ eb)
noncomputable def couldS (ops : List TOp) (la ea ra lb eb rb : Int) : Bool := decide ((gcheck ops).2 = 0) && (goodS ops la ea ra && (goodS ops lb eb rb && wayS ops la ea ra lb eb rb))
theorem goodS_in {ops : List TOp} {l e r : Int} (h : goodS ops l e r = true) : ∃ k : Nat, l = k ∧ k < ops.length := by
  unfold goodS at h
  simp only [Bool.and_eq_true, decide_eq_true_eq] at h
  exact ⟨l.toNat, by omega, by omega⟩

/-- The three variables of Could. -/
structure CB (w wr : World) (ao : Option Addr) (n cap : Nat) (la ea ra lb eb rb : Int) : Prop where
  bel : Below w.heap.size w wr
  g : Blk wr w.heap.size #[.slice ao n cap] 24
  a : Blk wr (w.heap.size + 1) #[.int .i64 la, .int .i64 ea, .int .i64 ra] 47
  b : Blk wr (w.heap.size + 1 + 1) #[.int .i64 lb, .int .i64 eb, .int .i64 rb] 47
namespace CB
variable {w wr wr' : World} {ao : Option Addr} {n cap : Nat} {la ea ra lb eb rb : Int}
theorem new : CB w (((w.alloc (.cells #[.slice ao n cap] 24)).alloc (.cells #[.int .i64 la, .int .i64 ea, .int .i64 ra] 47)).alloc (.cells #[.int .i64 lb, .int .i64 eb, .int .i64 rb] 47)) ao n cap la ea ra lb eb rb := by
  refine ⟨(((Below.refl _ _).alloc (Nat.le_refl _) _).alloc (by simp) _).alloc (by simp; omega) _, ((Blk.new _ _ _).alloc _).alloc _, ?_, ?_⟩
  · have := (Blk.new (w.alloc (.cells #[.slice ao n cap] 24)) #[.int .i64 la, .int .i64 ea, .int .i64 ra] 47).alloc (.cells #[.int .i64 lb, .int .i64 eb, .int .i64 rb] 47)
    rwa [World.size_alloc] at this
  · have := Blk.new ((w.alloc (.cells #[.slice ao n cap] 24)).alloc (.cells #[.int .i64 la, .int .i64 ea, .int .i64 ra] 47)) #[.int .i64 lb, .int .i64 eb, .int .i64 rb] 47
    rwa [World.size_alloc, World.size_alloc] at this
theorem below (h : CB w wr ao n cap la ea ra lb eb rb) (k : Below wr.heap.size wr wr') : CB w wr' ao n cap la ea ra lb eb rb :=
  ⟨h.bel.trans (k.mono h.bel.size), h.g.below k h.g.lt, h.a.below k h.a.lt, h.b.below k h.b.lt⟩
theorem facts (h : CB w wr ao n cap la ea ra lb eb rb) : wr.cell? ⟨w.heap.size, 0, none⟩ = some (.slice ao n cap) ∧
    wr.cell? ⟨w.heap.size + 1, 0, none⟩ = some (.int .i64 la) ∧ wr.cell? ⟨w.heap.size + 1, 1, none⟩ = some (.int .i64 ea) ∧ wr.cell? ⟨w.heap.size + 1, 2, none⟩ = some (.int .i64 ra) ∧
    wr.cell? ⟨w.heap.size + 1 + 1, 0, none⟩ = some (.int .i64 lb) ∧ wr.cell? ⟨w.heap.size + 1 + 1, 1, none⟩ = some (.int .i64 eb) ∧ wr.cell? ⟨w.heap.size + 1 + 1, 2, none⟩ = some (.int .i64 rb) ∧ w.heap.size + 1 + 1 < wr.heap.size :=
  ⟨h.g.cellAt rfl, h.a.cellAt rfl, h.a.cellAt rfl, h.a.cellAt rfl, h.b.cellAt rfl, h.b.cellAt rfl, h.b.cellAt rfl, h.b.lt⟩
end CB

set_option maxRecDepth 100000 in
set_option maxHeartbeats 4000000 in
theorem could_any (ops : List TOp) (cap : Nat) (ao : Option Addr) (la ea ra lb eb rb : Int) (B : Nat) (w : World) (hB : B ≤ w.heap.size) (hx : SlA B 7 (ROp B) w ao cap ops) :
    Calls Try.prog 46 #[.agg #[.slice ao ops.length cap], .agg #[.int .i64 la, .int .i64 ea, .int .i64 ra], .agg #[.int .i64 lb, .int .i64 eb, .int .i64 rb]] w fun x w' => x = .returned (.bool (couldS ops la ea ra lb eb rb)) ∧ Below w.heap.size w w' := by
  have hp := fun l e r W hb => pgood_any ops cap ao l e r B W (Nat.le_trans hB (Below.size hb)) (imp_ops hx (hb.mono hB))
  by_cases hok : (gcheck ops).2 = 0
  · have hG := okG_of_check hok
    have hR := fun W hb => reaches_ok ops cap ao W B (Nat.le_trans hB (Below.size hb)) (imp_ops hx (hb.mono hB)) hok
    rw [show couldS ops la ea ra lb eb rb = (goodS ops la ea ra && (goodS ops lb eb rb && wayS ops la ea ra lb eb rb)) by unfold couldS; rw [decide_eq_true hok, Bool.true_and]]
    have hpos := hG.pos
    have hmost := hG.most
    have hpa := hp la ea ra
    have hpb := hp lb eb rb
    obtain ⟨n, hn⟩ : ∃ n, n = ops.length := ⟨_, rfl⟩
    rw [← hn] at hR hpa hpb hpos hmost ⊢
    have hne : ((n : Int) == 0) = false := by simp; omega
    have hina : goodS ops la ea ra = true → ∃ k : Nat, la = k ∧ k < n := fun h => by rw [hn]; exact goodS_in h
    have hinb : goodS ops lb eb rb = true → ∃ k : Nat, lb = k ∧ k < n := fun h => by rw [hn]; exact goodS_in h
    obtain ⟨ga, hga⟩ : ∃ g, g = goodS ops la ea ra := ⟨_, rfl⟩
    obtain ⟨gb, hgb⟩ : ∃ g, g = goodS ops lb eb rb := ⟨_, rfl⟩
    obtain ⟨wy, hwy⟩ : ∃ g, g = wayS ops la ea ra lb eb rb := ⟨_, rfl⟩
    rw [← hga] at hpa hina ⊢
    rw [← hgb] at hpb hinb ⊢
    rw [← hwy]
    replace hga := Lib.hid hga
    replace hgb := Lib.hid hgb
    replace hn := Lib.hid hn
    replace hok := Lib.hid hok
    replace hG := Lib.hid hG
    replace hwy := Lib.hid hwy
    replace hinb := Lib.hid hinb
    replace hina := Lib.hid hina
    clear hp
    go_enter Try.func46, Try.ntmps46
    go_wp2_with fail
    have hC0 : CB w _ ao n cap la ea ra lb eb rb := CB.new
    refine (hR _ hC0.bel).mono ?_
    rintro e w1 ⟨v, rfl, ⟨hb, rs, rfl, hP⟩, hb1⟩
    have hC := hC0.below hb1
    obtain ⟨c0, c1, c2, c3, c4, c5, c6, cl⟩ := hC.facts
    clear hb1 hC0 hR
    dsimp only
    go_wp2_with fail
    refine (hpa _ hC.bel).mono ?_
    rintro e w2 ⟨rfl, hb2⟩
    replace hC := hC.below hb2
    replace hP := hP.below hb2 (Nat.le_refl _)
    clear c0 c1 c2 c3 c4 c5 c6 cl hb2 hpa
    obtain ⟨c0, c1, c2, c3, c4, c5, c6, cl⟩ := hC.facts
    cases ga with
    | false =>
      dsimp only
      go_wp2_with fail
      go_ret
      refine ⟨?_, hC.bel⟩
      show Ending.returned (Value.bool false) = _
      rfl
    | true =>
      obtain ⟨ka, rfl, hka⟩ := hina.out (by trivial)
      dsimp only
      go_wp2_with fail
      refine (hpb _ hC.bel).mono ?_
      rintro e w3 ⟨rfl, hb2⟩
      replace hC := hC.below hb2
      replace hP := hP.below hb2 (Nat.le_refl _)
      clear c0 c1 c2 c3 c4 c5 c6 cl hb2 hpb
      obtain ⟨c0, c1, c2, c3, c4, c5, c6, cl⟩ := hC.facts
      cases gb with
      | false =>
        dsimp only
        go_wp2_with fail
        go_ret
        refine ⟨?_, hC.bel⟩
        show Ending.returned (Value.bool false) = _
        rfl
      | true =>
        obtain ⟨kb, rfl, hkb⟩ := hinb.out (by trivial)
        dsimp only
        by_cases hab : ka = kb
        · have heq : ((ka : Int) == (kb : Int)) = true := by rw [hab]; simp
          have hw2 : wy = leT ⟨ea, ra⟩ ⟨eb, rb⟩ := by rw [hwy.out]; unfold wayS; rw [if_pos (by omega)]
          go_wp2_with fail
          refine (le_any ea ra eb rb _).mono ?_
          rintro e w4 ⟨rfl, hb4⟩
          go_wp2_with fail
          go_ret
          refine ⟨?_, hC.bel.trans (hb4.mono hC.bel.size)⟩
          show Ending.returned (Value.bool (leT ⟨ea, ra⟩ ⟨eb, rb⟩)) = _
          rw [← hw2]; rfl
        · have heq : ((ka : Int) == (kb : Int)) = false := by simp; omega
          have hw2 : wy = (rch ops ka kb && decide (ea ≤ eb)) := by rw [hwy.out]; unfold wayS; rw [if_neg (by omega), Int.toNat_natCast, Int.toNat_natCast]
          obtain ⟨rr, h1, h2⟩ := hP.hcell (Nat.zero_le ka) hka
          have h3 := hP.rcell (Nat.zero_le ka) h1 hkb
          generalize rch ops ka kb = rv at hw2 h3
          replace hw2 := Lib.hid hw2
          clear h1 hab
          cases rv with
          | false =>
            go_wp2_with fail
            go_quiet (fail)
            go_wp2_with fail
            go_ret
            refine ⟨?_, below_drewN hC.bel _⟩
            rw [hw2.out]; rfl
          | true =>
            go_wp2_with fail
            go_quiet (fail)
            go_wp2_with fail
            go_ret
            refine ⟨?_, below_drewN hC.bel _⟩
            rw [hw2.out]
            simp
  · have hR := fun W hb => reaches_no ops cap ao W B (Nat.le_trans hB (Below.size hb)) (imp_ops hx (hb.mono hB)) hok
    rw [show couldS ops la ea ra lb eb rb = false by unfold couldS; rw [decide_eq_false hok, Bool.false_and]]
    clear hp
    generalize ops.length = n at hR ⊢
    go_enter Try.func46, Try.ntmps46
    go_wp2_with fail
    have hC0 : CB w _ ao n cap la ea ra lb eb rb := CB.new
    refine (hR _ hC0.bel).mono ?_
    rintro e w1 ⟨rfl, hb1⟩
    have hC := hC0.below hb1
    go_wp2_with fail
    go_ret
    exact ⟨rfl, hC.bel⟩

end Go.Proofs.Ytjmbafcpbagpdaa

/- Reach: Next. -/
namespace Go.Proofs.Ytjmbafcpbagpdaa
open Go.RowKit Go.Shelf
attribute [local go_sem] Oper.semAt_some
set_option linter.unusedVariables false
set_option linter.unusedSimpArgs false

def encS (x : TStamp) : List Value := [.int .i64 x.fLoc, .int .i64 x.fT.fEpoch, .int .i64 x.fT.fRound]
theorem encS_len (x : TStamp) : (encS x).length = 3 := rfl
theorem encS_one (x : TStamp) : ∀ u ∈ encS x, u.oneCell' = true := by
  intro u hu
  simp only [encS, List.mem_cons, List.not_mem_nil, or_false] at hu
  rcases hu with rfl | rfl | rfl <;> rfl
theorem infoS : (Try.prog.info? 47).map (fun i => (i.zero, i.size, i.bytes)) = some (some (.agg #[.int .i64 0, .int .i64 0, .int .i64 0]), 3, 24) := by kernel_rfl

def furS (ops : List TOp) (l e r : Int) : List TStamp := if (opAt ops l).fKind = 7 ∧ r < (opAt ops l).fRounds - 1 then [⟨l, ⟨e, r + 1⟩⟩] else []
def useS (e : Int) (x : Nat × Nat) : TStamp := ⟨(x.1 : Nat), ⟨e, 0⟩⟩
def nextS (ops : List TOp) (l e r : Int) : List TStamp := if decide ((gcheck ops).2 = 0) && goodS ops l e r then furS ops l e r ++ (usesL ops l).map (useS e) else []

/-- The state of Next: its variables, and the list so far. -/
structure NSt (w wr : World) (ob : Nat) (ao : Option Addr) (n cap : Nat) (l e r : Int) (L : List TStamp) (v : Value) : Prop where
  bel : Below w.heap.size w wr
  g : Blk wr w.heap.size #[.slice ao n cap] 24
  s : Blk wr (w.heap.size + 1) #[.int .i64 l, .int .i64 e, .int .i64 r] 47
  o : Blk wr (ob) #[v] 34
  own : OwnL encS wr (ob + 1) 47 3 v L
  o1 : w.heap.size + 1 < ob
namespace NSt
variable {w wr wr' : World} {ob : Nat} {ao : Option Addr} {n cap : Nat} {l e r : Int} {L : List TStamp} {v : Value}
theorem below (h : NSt w wr ob ao n cap l e r L v) (k : Below wr.heap.size wr wr') : NSt w wr' ob ao n cap l e r L v :=
  ⟨h.bel.trans (k.mono h.bel.size), h.g.below k h.g.lt, h.s.below k h.s.lt, h.o.below k h.o.lt, h.own.below k (Nat.le_refl _), h.o1⟩
theorem chg {S : Nat → Prop} (h : NSt w wr ob ao n cap l e r L v) (k : Chg S wr wr') (hS : ∀ b, S b → b < wr.heap.size → w.heap.size ≤ b ∧ ∀ cs T, ¬ Blk wr b cs T) : NSt w wr' ob ao n cap l e r L v := by
  have hb : ∀ {b cs T}, Blk wr b cs T → ¬ S b := fun hb hs => (hS _ hs hb.lt).2 _ _ hb
  exact ⟨h.bel.trans (k.below h.bel.size (fun b hbl hs => by
      have := h.bel.size
      have := (hS b hs (by omega)).1
      omega)), h.g.chg k (hb h.g), h.s.chg k (hb h.s), h.o.chg k (hb h.o), h.own.chg k (fun g hg hs => by
      rcases h.own.form with ⟨h1, _⟩ | ⟨g', cap, cells, h1, h2, _⟩
      · rw [h1] at hg; cases hg
      · rw [h1] at hg
        obtain rfl : g' = g := by simpa [Value.ownBlock] using hg
        exact hb h2 hs), h.o1⟩
theorem ownF {β : Type} {B : Nat} (F : β → List TStamp) (hB : w.heap.size ≤ B) : OwnFrom B (fun s W => ∃ v, NSt w W ob ao n cap l e r (F s) v) := fun s X Y row ⟨v, hs⟩ hg hr =>
  ⟨v, hs.chg (Chg.of_grown hg) (fun b e _ => by
    obtain ⟨h1, o, h2, h3⟩ := hr b e
    refine ⟨by omega, fun cs T hb => ?_⟩
    unfold Blk at hb
    rw [hb] at h2
    cases h2
    cases h3)⟩
theorem facts (h : NSt w wr ob ao n cap l e r L v) : wr.cell? ⟨w.heap.size, 0, none⟩ = some (.slice ao n cap) ∧
    wr.cell? ⟨w.heap.size + 1, 0, none⟩ = some (.int .i64 l) ∧ wr.cell? ⟨w.heap.size + 1, 1, none⟩ = some (.int .i64 e) ∧ wr.cell? ⟨w.heap.size + 1, 2, none⟩ = some (.int .i64 r) ∧
    wr.cell? ⟨ob, 0, none⟩ = some v ∧ wr.frozen? ⟨ob, 0, none⟩ = false ∧ ob < wr.heap.size :=
  ⟨h.g.cellAt rfl, h.s.cellAt rfl, h.s.cellAt rfl, h.s.cellAt rfl, h.o.cellAt rfl, h.o.frozen 0, h.o.lt⟩
/-- One more, and the variable holds the new slice. -/
theorem app (h : NSt w wr ob ao n cap l e r L v) {w3 : World} {v' : Value} {L' : List TStamp} (ho : OwnL encS w3 (ob + 1) 47 3 v' L') (hb : Below (ob + 1) wr w3) :
    NSt w (w3.setCell ⟨ob, 0, none⟩ v') ob ao n cap l e r L' v' := by
  have h1 := h.o1
  refine ⟨((h.bel.trans (hb.mono (by omega))).setCell (p := ⟨ob, 0, none⟩) (by dsimp only; omega) _), (h.g.below hb (by omega)).set_other (by simp; omega) _, (h.s.below hb (by omega)).set_other (by simp; omega) _, (h.o.below hb (by omega)).set 0 v',
    ho.chg ((Chg.refl (fun k => k = ob) w3).setCell ⟨ob, 0, none⟩ v' (fun _ => rfl)) (fun g hg e => ?_), h1⟩
  have := (World.ownsRow.lt ho g hg).1
  omega
end NSt

def NStE (w : World) (ob : Nat) (ao : Option Addr) (n cap : Nat) (l e r : Int) (L : List TStamp) (wr : World) : Prop := ∃ v, NSt w wr ob ao n cap l e r L v

theorem ownL_shut {α : Type} {enc : α → List Value} {B base size : Nat} {e : TypeId} {w w' : World} {v : Value} {xs : List α} (h : OwnL enc w base e size v xs) (hs : ShutM B w w') : OwnL enc w' base e size v xs := by
  refine ⟨h.1, ?_⟩
  rcases h.2 with h | ⟨g, cap, cur, h1, h2, h3, h4⟩
  · exact .inl h
  · exact .inr ⟨g, cap, cur, h1, h2, by rw [hs.same g (fun x e => by rw [h3] at e; cases e)]; exact h3, h4⟩

theorem okG_in2 {ops : List TOp} (h : (gcheck ops).2 = 0) {b : Nat} {o : TOp} (ho : ops[b]? = some o) : o.fIn.length ≤ 2 := by
  have h1 := ok_at h ho
  unfold okB at h1
  simp only [Bool.and_eq_true, decide_eq_true_eq] at h1
  have hw : wantN o.fKind ≤ 2 := by unfold wantN; split <;> (try split) <;> omega
  omega
theorem insK_le (i : Nat) (ins : List Int) (fr : Int) (k : Nat) : (insK i ins fr k).length ≤ k := by
  unfold insK
  rw [List.length_map]
  exact Nat.le_trans (List.length_filter_le _ _) (by simp)
theorem usesK_le2 {ops : List TOp} (h : (gcheck ops).2 = 0) (fr : Int) : ∀ m, m ≤ ops.length → (usesK ops fr m).length ≤ m * 2
  | 0, _ => by simp [usesK]
  | m + 1, hm => by
    have hx : ops[m]? = some ops[m] := List.getElem?_eq_getElem (by omega)
    rw [usesK_succ ops fr m _ hx, List.length_append]
    have h1 := usesK_le2 h fr m (by omega)
    have h2 := insK_le m ops[m].fIn fr ops[m].fIn.length
    have h3 := okG_in2 h hx
    omega
theorem uses_le' {ops : List TOp} (h : (gcheck ops).2 = 0) (fr : Int) : (usesL ops fr).length ≤ 32 := by
  have h1 := usesK_le2 h fr ops.length (Nat.le_refl _)
  have h2 := (okG_of_check h).most
  unfold usesL
  omega

end Go.Proofs.Ytjmbafcpbagpdaa

/- Reach: the reference's Next; SameStamps. -/
namespace Go.Proofs.Ytjmbafcpbagpdaa
open Go.RowKit Go.Shelf
set_option linter.unusedVariables false
set_option linter.unusedSimpArgs false

/-- The variables of the reference's Next. -/
structure MSt (w wr : World) (fb : Nat) (ao : Option Addr) (n cap : Nat) (l e r : Int) : Prop where
  bel : Below w.heap.size w wr
  g : Blk wr w.heap.size #[.slice ao n cap] 24
  s : Blk wr (w.heap.size + 1) #[.int .i64 l, .int .i64 e, .int .i64 r] 47
  f : Blk wr fb #[.int .i64 l, .int .i64 e, .int .i64 (r + 1)] 47
  o1 : w.heap.size + 1 < fb
namespace MSt
variable {w wr wr' : World} {fb : Nat} {ao : Option Addr} {n cap : Nat} {l e r : Int}
theorem below {B : Nat} (h : MSt w wr fb ao n cap l e r) (k : Below B wr wr') (hB : fb < B) : MSt w wr' fb ao n cap l e r := by
  have := h.o1
  exact ⟨h.bel.trans (k.mono (by omega)), h.g.below k (by omega), h.s.below k (by omega), h.f.below k hB, h.o1⟩
theorem facts (h : MSt w wr fb ao n cap l e r) : wr.cell? ⟨w.heap.size, 0, none⟩ = some (.slice ao n cap) ∧
    wr.cell? ⟨w.heap.size + 1, 0, none⟩ = some (.int .i64 l) ∧ wr.cell? ⟨w.heap.size + 1, 1, none⟩ = some (.int .i64 e) ∧ wr.cell? ⟨w.heap.size + 1, 2, none⟩ = some (.int .i64 r) ∧
    wr.cell? ⟨fb, 0, none⟩ = some (.int .i64 l) ∧ wr.cell? ⟨fb, 1, none⟩ = some (.int .i64 e) ∧ wr.cell? ⟨fb, 2, none⟩ = some (.int .i64 (r + 1)) ∧ fb < wr.heap.size :=
  ⟨h.g.cellAt rfl, h.s.cellAt rfl, h.s.cellAt rfl, h.s.cellAt rfl, h.f.cellAt rfl, h.f.cellAt rfl, h.f.cellAt rfl, h.f.lt⟩
end MSt
/-- The uses lie in a row of their own. -/
def UCells (w : World) (au : Option Addr) (U : List (Nat × Nat)) : Prop := ∀ (i : Nat) (x : Nat × Nat), U[i]? = some x → ∃ g cells, au = some ⟨g, 0, none⟩ ∧ Blk w g cells 104 ∧ cells[i * 2]? = some (.int .i64 (x.1 : Nat)) ∧ cells[i * 2 + 1]? = some (.int .i64 (x.2 : Nat))
theorem UCells.chg {w w' : World} {au : Option Addr} {U : List (Nat × Nat)} {S : Nat → Prop} (h : UCells w au U) (k : Chg S w w') (hS : ∀ b cs, S b → ¬ Blk w b cs 104) : UCells w' au U := fun i x hx => by
  obtain ⟨g, cells, h1, h2, h3⟩ := h i x hx
  exact ⟨g, cells, h1, h2.chg k (fun hs => hS _ _ hs h2), h3⟩
theorem UCells.of_own {w : World} {base cap : Nat} {au : Option Addr} {U : List (Nat × Nat)} (h : OwnL encU w base 104 2 (.slice au U.length cap) U) : UCells w au U := fun i x hx => by
  obtain ⟨hi, rfl⟩ := List.getElem?_eq_some_iff.1 hx
  rcases h.form with ⟨_, h1⟩ | ⟨g, cap', cells, h1, h2, _, _, _, _, _, h8⟩
  · subst h1; cases hi
  · simp only [Value.slice.injEq] at h1
    have key : ∀ j, j < 2 → cells[i * 2 + j]? = (encU U[i])[j]? := fun j hj => by
      rw [← flat_at encU_len U i j hi hj, ← h8, List.getElem?_take, if_pos]
      · simp
      · omega
    refine ⟨g, cells, h1.1, h2, ?_, ?_⟩
    · have := key 0 (by omega); simpa [encU] using this
    · have := key 1 (by omega); simpa [encU] using this

theorem goodS_small {ops : List TOp} (hok : (gcheck ops).2 = 0) {k : Nat} {e r : Int} {o : TOp} (ho : ops[k]? = some o) (h : goodS ops k e r = true) : r ≤ 16 := by
  have hgT : goodT ⟨e, r⟩ = true := by
    unfold goodS at h
    simp only [Bool.and_eq_true] at h
    exact h.1.2
  rw [goodS_at ho hgT] at h
  simp only [Bool.or_eq_true, Bool.and_eq_true, decide_eq_true_eq] at h
  rcases h with h | ⟨h1, h2⟩
  · omega
  · have := rounds_at hok ho h1; omega

set_option maxRecDepth 100000 in
set_option maxHeartbeats 4000000 in
theorem rnext_any (ops : List TOp) (cap : Nat) (ao : Option Addr) (l e r : Int) (B : Nat) (w : World) (hB : B ≤ w.heap.size) (hx : SlA B 7 (ROp B) w ao cap ops) :
    Calls Try.prog 27 #[.agg #[.slice ao ops.length cap], .agg #[.int .i64 l, .int .i64 e, .int .i64 r]] w fun x w' => Below w.heap.size w w' ∧ ∃ v, x = .returned v ∧ OwnL encS w' w.heap.size 47 3 v (nextS ops l e r) := by
  have hGd := fun W hb => rGood_any ops cap ao l e r B W (Nat.le_trans hB (Below.size hb)) (imp_ops hx (hb.mono hB))
  by_cases hgood : (decide ((gcheck ops).2 = 0) && goodS ops l e r) = true
  · obtain ⟨hok, hgs⟩ := by simpa [Bool.and_eq_true] using hgood
    rw [hgood] at hGd
    have hG := okG_of_check hok
    obtain ⟨k, rfl, hk⟩ := goodS_in hgs
    obtain ⟨o, ho⟩ : ∃ o, ops[k] = o := ⟨_, rfl⟩
    have hok2 : ops[k]? = some o := by rw [List.getElem?_eq_getElem hk, ho]
    have hr16 := goodS_small hok hok2 hgs
    have hgT : goodT ⟨e, r⟩ = true := by
      unfold goodS at hgs
      simp only [Bool.and_eq_true] at hgs
      exact hgs.1.2
    have hnn := goodT_nn hgT
    have hnx : nextS ops k e r = furS ops k e r ++ (usesL ops (k : Nat)).map (useS e) := by unfold nextS; rw [if_pos hgood]
    have hGf := fun W hb => rGood_any ops cap ao (k : Nat) e (r + 1) B W (Nat.le_trans hB (Below.size hb)) (imp_ops hx (hb.mono hB))
    have hgT2 : goodT ⟨e, r + 1⟩ = true := by unfold goodT; exact decide_eq_true ⟨hnn.1, by dsimp only; omega⟩
    obtain ⟨c, hc⟩ : ∃ c, c = (decide (o.fKind = 7) && decide (r + 1 < o.fRounds)) := ⟨_, rfl⟩
    rw [decide_eq_true hok, Bool.true_and, goodS_at hok2 hgT2, decide_eq_false (show ¬ r + 1 = 0 by omega), Bool.false_or, ← hc] at hGf
    have hfc : furS ops k e r = if c then [⟨(k : Nat), ⟨e, r + 1⟩⟩] else [] := by
      unfold furS
      rw [opAt_get hok2]
      by_cases h : o.fKind = 7 ∧ r < o.fRounds - 1
      · rw [if_pos h, hc, decide_eq_true h.1, decide_eq_true (by omega)]; rfl
      · rw [if_neg h, hc]
        by_cases h7 : o.fKind = 7
        · rw [decide_eq_false (show ¬ r + 1 < o.fRounds by omega), Bool.and_false]; rfl
        · rw [decide_eq_false h7, Bool.false_and]; rfl
    have hc7 : (o.fKind == 7) = false → c = false := fun h => by rw [hc, decide_eq_false (by simpa using h), Bool.false_and]
    have hul := uses_le' hok (k : Int)
    have hU := fun W hb => ruses_any ops cap ao (k : Nat) B W (Nat.le_trans hB (Below.size hb)) (imp_ops hx (hb.mono hB)) (by omega)
    obtain ⟨gb, goff, rfl, hgb, hq⟩ := hx.addr (by omega)
    clear hq
    have hl2 : ∀ W : World, Below w.heap.size w W → W.cell? ⟨gb, goff + k * 7, none⟩ = some (.int .i64 o.fKind) := fun W hb => (ROp.at (imp_ops hx (hb.mono hB)) hk ho).choose_spec.choose_spec.1
    rw [hnx]
    obtain ⟨i0, hi, hz0, hz1, hz2⟩ := info_parts infoS
    obtain ⟨n, hn⟩ : ∃ n, n = ops.length := ⟨_, rfl⟩
    rw [← hn] at hGd hGf hU hk ⊢
    have hmost : n ≤ 16 := by rw [hn]; exact hG.most
    generalize o.fKind = ki at hl2 hc7 hc
    replace hok := Lib.hid hok
    replace hn := Lib.hid hn
    replace hfc := Lib.hid hfc
    replace hl2 := Lib.hid hl2
    replace hc7 := Lib.hid hc7
    clear hgood hgs hnx hG hok2 ho hgT hgT2 hc
    go_enter Try.func27, Try.ntmps27
    go_wp2_with fail
    refine (hGd _ ((by repeat (first | exact Below.refl _ _ | assumption | refine below_drewN ?_ _ | refine Below.drew ?_ | (refine Below.setCell ?_ (by first | omega | (simp; omega) | simp) _) | (refine Below.alloc ?_ (by first | omega | (simp; omega) | simp) _) | (refine Below.trans ?_ (Below.mono (by assumption) (by first | omega | (simp; omega) | simp))))))).mono ?_
    rintro x w3 ⟨rfl, b3⟩
    have hbel : Below w.heap.size w w3 := (by repeat (first | exact Below.refl _ _ | assumption | refine below_drewN ?_ _ | refine Below.drew ?_ | (refine Below.setCell ?_ (by first | omega | (simp; omega) | simp) _) | (refine Below.alloc ?_ (by first | omega | (simp; omega) | simp) _) | (refine Below.trans ?_ (Below.mono (by assumption) (by first | omega | (simp; omega) | simp)))))
    have hG3 : Blk w3 w.heap.size #[.slice (some ⟨gb, goff, none⟩) n cap] 24 := ((Blk.new _ _ _).alloc _).below b3 (by simp; omega)
    have hS3 : Blk w3 (w.heap.size + 1) #[.int .i64 k, .int .i64 e, .int .i64 r] 47 := by
      have := Blk.new (w.alloc (.cells #[.slice (some ⟨gb, goff, none⟩) n cap] 24)) #[.int .i64 k, .int .i64 e, .int .i64 r] 47
      rw [World.size_alloc] at this
      exact this.below b3 (by simp)
    have g0 := hG3.cellAt (i := 0) (v := .slice (some ⟨gb, goff, none⟩) n cap) rfl
    have s0 := hS3.cellAt (i := 0) (v := .int .i64 k) rfl
    have s1 := hS3.cellAt (i := 1) (v := .int .i64 e) rfl
    have s2 := hS3.cellAt (i := 2) (v := .int .i64 r) rfl
    have hr17 : r + 1 ≤ 17 := by omega
    clear b3 hGd
    go_upto_region 5 with fail
    obtain ⟨fb, hfb⟩ : ∃ fb, fb = w3.heap.size := ⟨_, rfl⟩
    have hM : MSt w (w3.alloc (.cells #[.int .i64 k, .int .i64 e, .int .i64 (r + 1)] 47)) fb (some ⟨gb, goff, none⟩) n cap k e r := by
      rw [hfb]
      exact ⟨hbel.alloc hbel.size _, hG3.alloc _, hS3.alloc _, Blk.new _ _ _, hS3.lt⟩
    rw [← hfb]
    generalize w3.alloc (.cells #[.int .i64 k, .int .i64 e, .int .i64 (r + 1)] 47) = w4 at hM ⊢
    clear hbel hG3 hS3 hfb g0 s0 s1 s2 w3
    go_cut [36] from 24 to 36 (fun s wx => s = .bool c ∧ MSt w wx fb (some ⟨gb, goff, none⟩) n cap k e r)
    case first =>
      obtain ⟨c0, c1, c2, c3, c4, c5, c6, cl⟩ := hM.facts
      have f0 := hl2.out w4 hM.bel
      have hgw : gb < w4.heap.size := by have := hM.bel.size; omega
      cases c7 : (ki == 7) with
      | false =>
        go_wp2_with fail
        go_meet
        case rel => exact ⟨by rw [hc7.out c7], hM⟩
      | true =>
        go_wp2_with fail
        refine (hGf _ hM.bel).mono ?_
        rintro x w5 ⟨rfl, b5⟩
        go_wp2_with fail
        go_meet
        case rel => exact ⟨rfl, hM.below b5 hM.f.lt⟩
    case rest =>
      clear hM hGf hc7 hl2 w4
      obtain ⟨rfl, hM⟩ := hcut
      go_upto_if 36 with fail
      go_cut [5] from 37 to 40 (fun s wx => MSt w wx fb (some ⟨gb, goff, none⟩) n cap k e r ∧ OwnL encS wx (fb + 1) 47 3 s (furS ops k e r))
      case first =>
        obtain ⟨c0, c1, c2, c3, c4, c5, c6, cl⟩ := hM.facts
        cases c with
        | true =>
          have hL := OwnL.nil encS wc (fb + 1) 47 3
          go_wp2_with (at_builtin; refine Shut.out ?stop1)
          unfold Shut
          refine wpList_app1 rfl _ _ 34 rfl Try.underlying34 hi hz0 hz1 hz2 rfl (by decide) (enc := encS) ⟨(k : Nat), ⟨e, r + 1⟩⟩ rfl hL rfl (encS_len _) (encS_one _) (by first | omega | (simp; done) | (simp; omega)) (by unfold maxLen; first | omega | (simp; done) | (simp; omega)) (cl) ?_
          intro a1 cp1 w8 hown8 hb8 hgr
          have hM8 := hM.below hb8 (Nat.lt_succ_self _)
          clear hb8 hgr hL
          go_wp2_with fail
          go_meet
          case rel => exact ⟨hM8, by rw [hfc.out]; exact hown8⟩
        | false =>
          go_wp2_with fail
          go_meet
          case rel => exact ⟨hM, by rw [hfc.out]; exact OwnL.nil _ _ _ _ _⟩
      case rest =>
        clear hM hfc
        obtain ⟨hM, hown⟩ := hcut
        have hF1 : (furS ops k e r).length ≤ 1 := by unfold furS; split <;> simp
        obtain ⟨F0, hF0⟩ : ∃ F, F = furS ops k e r := ⟨_, rfl⟩
        rw [← hF0] at hown hF1
        replace hF0 := Lib.hid hF0
        obtain ⟨vf, hvf⟩ : ∃ vf, vf = u5 := ⟨_, rfl⟩
        obtain ⟨c0, c1, c2, c3, c4, c5, c6, cl⟩ := hM.facts
        go_wp2_with fail
        refine (hU _ hM.bel).mono ?_
        rintro x w8 ⟨b8, vu, rfl, hown8⟩
        have hM8 := hM.below b8 hM.f.lt
        have hownF := hown.below b8 (Nat.le_refl _)
        obtain ⟨au, cu, rfl, _, _, _⟩ := hown8.slice
        have hUC := UCells.of_own hown8
        obtain ⟨U, hUe⟩ : ∃ U, U = usesL ops (k : Nat) := ⟨_, rfl⟩
        rw [← hUe] at hul hUC ⊢
        replace hUe := Lib.hid hUe
        obtain ⟨nu, hnu⟩ : ∃ nu, nu = U.length := ⟨_, rfl⟩
        rw [← hnu] at hul ⊢
        replace hnu := Lib.hid hnu
        clear c0 c1 c2 c3 c4 c5 c6 cl b8 hown hM hown8 hU hvf
        dsimp only
        go_wp2_with fail
        go_loopw [5, 8] (fun v x8 wr => ∃ i : Nat, i ≤ nu ∧ x8 = .int .i64 i ∧ MSt w wr fb (some ⟨gb, goff, none⟩) n cap k e r ∧ UCells wr au U ∧ OwnL encS wr (fb + 1) 47 3 v (F0 ++ (U.take i).map (useS e))) (fun _ x8 _ => nu - (intOf x8).toNat)
        case atStart => exact ⟨0, Nat.zero_le _, rfl, hM8, hUC, by simpa using hownF⟩
        case round =>
          clear hM8 hUC hownF
          obtain ⟨i, hiu, rfl, hM, hUC, hown⟩ := hrel
          by_cases hlt : i < nu
          · have hiU : i < U.length := by rw [← hnu.out]; exact hlt
            obtain ⟨x, hx2⟩ : ∃ x, U[i] = x := ⟨_, rfl⟩
            have hxs : U[i]? = some x := by rw [List.getElem?_eq_getElem hiU, hx2]
            obtain ⟨g, cells, rfl, hU1, hU2, hU3⟩ := hUC i x hxs
            have u0 := hU1.cellAt hU2
            have u1 := hU1.cellAt hU3
            have htk : F0 ++ (U.take (i + 1)).map (useS e) = (F0 ++ (U.take i).map (useS e)) ++ [⟨(x.1 : Nat), ⟨e, 0⟩⟩] := by
              rw [List.take_add_one, hxs, Option.toList_some, List.map_append, List.append_assoc]
              rfl
            obtain ⟨LL, hLL⟩ : ∃ LL, LL = F0 ++ (U.take i).map (useS e) := ⟨_, rfl⟩
            rw [← hLL] at hown htk
            have hLl : LL.length ≤ 33 := by
              rw [hLL]
              simp only [List.length_append, List.length_map, List.length_take]
              omega
            obtain ⟨av, cv, hvv, _, _, _⟩ := hown.slice
            subst hvv
            obtain ⟨nl, hnl⟩ : ∃ nl, nl = LL.length := ⟨_, rfl⟩
            rw [← hnl] at hown ⊢
            replace hnl := Lib.hid hnl
            replace htk := Lib.hid htk
            obtain ⟨c0, c1, c2, c3, c4, c5, c6, cl⟩ := hM.facts
            have hgl : g < wr.heap.size := hU1.lt
            clear hLL hx2 hxs hU2 hU3
            generalize x.1 = xb at u0 htk
            generalize x.2 = xk at u1
            go_wp2_with fail
            refine wp_region_calm (fun wx => wx.cell? ⟨g, i * 2, none⟩ = some (.int .i64 xb) ∧ wx.cell? ⟨w.heap.size + 1, 1, none⟩ = some (.int .i64 e)) 12 [11] (by kernel_rfl) (by kernel_rfl) (fun d _ _ _ _ h => by cases d <;> exact h) ⟨u0, c2⟩ (fun hHeld => ?_)
            simp only [List.take_succ_cons, List.take_zero, List.drop_succ_cons, List.drop_zero]
            iterate 11 (refine wpCalm_q0 rfl rfl ⟨?_, ?_, ?_⟩; rotate_left; (focus (intro wx hSx; (try dsimp only at hSx); go_simp; (try with_reducible rfl))); (simp only [Act.put, List.setIfInBounds_toArray, List.set_cons_zero, List.set_cons_succ]))
            refine wpCalm_s rfl rfl (fun K' hK => ?_)
            go_simp
            refine hK.out _ _ ⟨by rw [show ((wr.alloc (.cells #[.int .i64 xb, .int .i64 e, .int .i64 0] 47)).drew).cell? ⟨g, i * 2, none⟩ = wr.cell? ⟨g, i * 2, none⟩ from World.cell?_alloc_lt _ _ _ hgl]; exact u0, (Blk.drew (hM.s.alloc _)).cellAt rfl⟩ ?_
            clear hK K'
            try simp only [Act.put, List.setIfInBounds_toArray, List.set_cons_zero, List.set_cons_succ]
            refine wpCalm_nil ?_
            change wpList _ _ _ _ _ ((wr.drew).alloc (.cells #[.int .i64 xb, .int .i64 e, .int .i64 0] 47))
            have hM9 : MSt w wr.drew fb (some ⟨gb, goff, none⟩) n cap k e r := hM.below ((Below.refl wr.heap.size wr).drew) hM.f.lt
            have hown9 : OwnL encS wr.drew (fb + 1) 47 3 (.slice av nl cv) LL := hown
            have hUC9 : UCells wr.drew (some ⟨g, 0, none⟩) U := hUC
            clear c0 c1 c2 c3 c4 c5 c6 u0 u1 hHeld hU1 hgl cl
            have cl9 := hM9.f.lt
            go_wp2_with (at_builtin; refine Shut.out ?stop2)
            unfold Shut
            refine wpList_app1 rfl _ _ 34 rfl Try.underlying34 hi hz0 hz1 hz2 rfl (by decide) (enc := encS) ⟨(xb : Nat), ⟨e, 0⟩⟩ rfl hown9 rfl (encS_len _) (encS_one _) (by first | omega | (simp; done) | (simp; omega)) (by unfold maxLen; first | omega | (simp; done) | (simp; omega)) (cl9) ?_
            intro a1 cp1 w10 hown10 hb10 hgr
            have hM10 := hM9.below hb10 (Nat.lt_succ_self _)
            have hgr2 : wr.drew.grownBy w10 (Value.slice av nl cv).ownBlock := hgr
            have hUC10 := hUC9.chg (Chg.of_grown hgr2) (fun b cs hb hbk => by
              rcases hown9.form with ⟨h1, _⟩ | ⟨g', cap', cells', h1, h2, _⟩
              · rw [h1] at hb; cases hb
              · rw [h1] at hb
                obtain rfl : g' = b := by simpa [Value.ownBlock] using hb
                exact absurd (blk_inj h2 hbk).2 (by decide))
            rw [← hnl.out] at hown10 ⊢
            clear hb10 hgr
            go_wp2_with fail
            go_roundw
            case rel => exact ⟨i + 1, by omega, by go_num, hM10, hUC10, by rw [htk.out]; exact hown10⟩
            case measure => simp [intOf]; omega
          · obtain rfl : i = nu := by omega
            go_wp2_with fail
            go_ret
            refine ⟨hM.bel, _, rfl, ?_⟩
            rw [hnu.out, List.take_length] at hown
            have h1 := hM.o1
            rw [← hF0.out, ← hUe.out]
            refine OwnL.base_le hown ?_
            omega
  · rw [show nextS ops l e r = [] by unfold nextS; rw [if_neg hgood]]
    rw [Bool.not_eq_true] at hgood
    rw [hgood] at hGd
    clear hgood
    generalize ops.length = n at hGd ⊢
    go_enter Try.func27, Try.ntmps27
    go_wp2_with fail
    refine (hGd _ ((by repeat (first | exact Below.refl _ _ | assumption | refine below_drewN ?_ _ | refine Below.drew ?_ | (refine Below.setCell ?_ (by first | omega | (simp; omega) | simp) _) | (refine Below.alloc ?_ (by first | omega | (simp; omega) | simp) _) | (refine Below.trans ?_ (Below.mono (by assumption) (by first | omega | (simp; omega) | simp))))))).mono ?_
    rintro x w3 ⟨rfl, b3⟩
    have hbel : Below w.heap.size w w3 := (by repeat (first | exact Below.refl _ _ | assumption | refine below_drewN ?_ _ | refine Below.drew ?_ | (refine Below.setCell ?_ (by first | omega | (simp; omega) | simp) _) | (refine Below.alloc ?_ (by first | omega | (simp; omega) | simp) _) | (refine Below.trans ?_ (Below.mono (by assumption) (by first | omega | (simp; omega) | simp)))))
    go_wp2_with fail
    go_ret
    exact ⟨hbel, _, rfl, OwnL.nil _ _ _ _ _⟩
end Go.Proofs.Ytjmbafcpbagpdaa

/- Reach: SameStamps of one list; the chapter's example; ReachCoulds. -/
namespace Go.Proofs.Ytjmbafcpbagpdaa
open Go.RowKit Go.Shelf
set_option linter.unusedVariables false
set_option linter.unusedSimpArgs false

theorem rsame_tt (l e r : Int) (w : World) :
    Calls Try.prog 18 #[.agg #[.int .i64 l, .int .i64 e, .int .i64 r], .agg #[.int .i64 l, .int .i64 e, .int .i64 r]] w fun x w' => x = .returned (.bool true) ∧ Below w.heap.size w w' := by
  have hs := fun W => same_any e r e r W
  rw [show sameT ⟨e, r⟩ ⟨e, r⟩ = true by simp [sameT]] at hs
  go_enter Try.func18, Try.ntmps18
  go_wp2_with fail
  refine (hs _).mono ?_
  rintro x w3 ⟨rfl, b3⟩
  have hbel : Below w.heap.size w w3 := (by repeat (first | exact Below.refl _ _ | assumption | refine below_drewN ?_ _ | refine Below.drew ?_ | (refine Below.setCell ?_ (by first | omega | (simp; omega) | simp) _) | (refine Below.alloc ?_ (by first | omega | (simp; omega) | simp) _) | (refine Below.trans ?_ (Below.mono (by assumption) (by first | omega | (simp; omega) | simp)))))
  go_wp2_with fail
  go_ret
  exact ⟨rfl, hbel⟩

def ES : World → List Value → TStamp → Prop := fun _ cs x => cs = encS x
theorem imp_es {B : Nat} {w w' : World} {ao : Option Addr} {cap : Nat} {xs : List TStamp} (h : SlA B 3 ES w ao cap xs) (hb : Below B w w') : SlA B 3 ES w' ao cap xs := h.imp hb (Nat.le_refl _) (fun _ _ _ h => h)
theorem es_grow {w w' : World} {ao : Option Addr} {cap : Nat} {xs : List TStamp} (h : SlA w.heap.size 3 ES w ao cap xs) (hb : Below w.heap.size w w') : SlA w'.heap.size 3 ES w' ao cap xs := h.imp hb hb.size (fun _ _ _ h => h)
theorem es_at {B : Nat} {w : World} {b off i cap : Nat} {xs : List TStamp} {x : TStamp} (h : SlA B 3 ES w (some ⟨b, off, none⟩) cap xs) (hi : i < xs.length) (hx : xs[i] = x) :
    w.cell? ⟨b, off + i * 3, none⟩ = some (.int .i64 x.fLoc) ∧ w.cell? ⟨b, off + i * 3 + 1, none⟩ = some (.int .i64 x.fT.fEpoch) ∧ w.cell? ⟨b, off + i * 3 + 2, none⟩ = some (.int .i64 x.fT.fRound) := by
  obtain ⟨cs, _, hc, hr⟩ := h.get i hi
  rw [hx] at hr
  rw [show cs = encS x from hr] at hc
  exact ⟨by have := hc 0 (by omega); simpa [encS] using this, by have := hc 1 (by omega); simpa [encS, Nat.add_assoc] using this, by have := hc 2 (by omega); simpa [encS, Nat.add_assoc] using this⟩

def kops : List TOp := [⟨1, [], 0, 0, 0, 0, 0⟩, ⟨7, [0], 0, 0, 3, 0, 0⟩, ⟨8, [1], 0, 0, 0, 0, 0⟩]
def kcells (b0 b1 : Nat) : Array Value := #[.int .i64 1, .slice none 0 0, .int .i64 0, .int .u32 0, .int .i64 0, .int .i64 0, .int .u32 0, .int .i64 7, .slice (some ⟨b0, 0, none⟩) 1 1, .int .i64 0, .int .u32 0, .int .i64 3, .int .i64 0, .int .u32 0,
      .int .i64 8, .slice (some ⟨b1, 0, none⟩) 1 1, .int .i64 0, .int .u32 0, .int .i64 0, .int .i64 0, .int .u32 0]
theorem kops_read {W : World} {B b0 b1 b2 : Nat} (h0 : Blk W b0 #[.int .i64 0] 3) (h1 : Blk W b1 #[.int .i64 1] 3) (h2 : Blk W b2 (kcells b0 b1) 62) (hb0 : b0 < B) (hb1 : b1 < B) (hb2 : b2 < B) :
    SlA B 7 (ROp B) W (some ⟨b2, 0, none⟩) 3 kops := by
  have m1 : (1 : Nat) ≤ maxLen := by unfold maxLen; omega
  unfold kcells at h2
  refine SlA.of_blk h2 hb2 (by decide) (by unfold maxLen; omega) ?_
  intro i hi
  match i, hi with
  | 0, _ => exact ⟨[.int .i64 1, .slice none 0 0, .int .i64 0, .int .u32 0, .int .i64 0, .int .i64 0, .int .u32 0], rfl, fun j hj => (match j, hj with | 0, _ | 1, _ | 2, _ | 3, _ | 4, _ | 5, _ | 6, _ => rfl), none, 0, rfl, rfl, SlA.nil _ _ _ _, rfl, rfl, rfl, rfl, rfl⟩
  | 1, _ => exact ⟨[.int .i64 7, .slice (some ⟨b0, 0, none⟩) 1 1, .int .i64 0, .int .u32 0, .int .i64 3, .int .i64 0, .int .u32 0], rfl, fun j hj => (match j, hj with | 0, _ | 1, _ | 2, _ | 3, _ | 4, _ | 5, _ | 6, _ => rfl), _, 1, rfl, rfl,
      SlA.of_blk1 h0 hb0 (Nat.le_refl 1) m1 (fun i hi => match i, hi with | 0, _ => ⟨rfl, rfl⟩), rfl, rfl, rfl, rfl, rfl⟩
  | 2, _ => exact ⟨[.int .i64 8, .slice (some ⟨b1, 0, none⟩) 1 1, .int .i64 0, .int .u32 0, .int .i64 0, .int .i64 0, .int .u32 0], rfl, fun j hj => (match j, hj with | 0, _ | 1, _ | 2, _ | 3, _ | 4, _ | 5, _ | 6, _ => rfl), _, 1, rfl, rfl,
      SlA.of_blk1 h1 hb1 (Nat.le_refl 1) m1 (fun i hi => match i, hi with | 0, _ => ⟨rfl, rfl⟩), rfl, rfl, rfl, rfl, rfl⟩
theorem kops_ok : (gcheck kops).2 = 0 := by decide
theorem kcould : couldS kops 1 4 0 2 4 0 = true := by
  have h1 : goodS kops 1 4 0 = true := by decide
  have h2 : goodS kops 2 4 0 = true := by decide
  have h3 : rch kops 1 2 = true := rch_iff.2 (.step ⟨⟨8, [1], 0, 0, 0, 0, 0⟩, rfl, by simp⟩ (.refl _))
  unfold couldS wayS
  rw [decide_eq_true kops_ok, h1, h2, if_neg (by decide)]
  rw [show Int.toNat 1 = 1 from rfl, show Int.toNat 2 = 2 from rfl, h3]
  rfl
theorem knext : nextS kops 1 4 0 = [⟨1, ⟨4, 1⟩⟩, ⟨2, ⟨4, 0⟩⟩] := by
  unfold nextS
  rw [if_pos (by decide)]
  rfl

/-- The example's variables. -/
structure KSt (w wr : World) (N : Nat) : Prop where
  bel : Below w.heap.size w wr
  b0 : Blk wr N #[.int .i64 0] 3
  b1 : Blk wr (N + 1) #[.int .i64 1] 3
  b2 : Blk wr (N + 1 + 1) (kcells N (N + 1)) 62
  g : Blk wr (N + 1 + 1 + 1) #[.slice (some ⟨N + 1 + 1, 0, none⟩) 3 3] 24
  s : Blk wr (N + 1 + 1 + 1 + 1) #[.int .i64 1, .int .i64 4, .int .i64 0] 47
theorem KSt.below {w wr wr' : World} {N : Nat} (h : KSt w wr N) (k : Below wr.heap.size wr wr') : KSt w wr' N :=
  ⟨h.bel.trans (k.mono h.bel.size), h.b0.below k h.b0.lt, h.b1.below k h.b1.lt, h.b2.below k h.b2.lt, h.g.below k h.g.lt, h.s.below k h.s.lt⟩
theorem KSt.read {w wr : World} {N : Nat} (h : KSt w wr N) : SlA wr.heap.size 7 (ROp wr.heap.size) wr (some ⟨N + 1 + 1, 0, none⟩) 3 kops := kops_read h.b0 h.b1 h.b2 h.b0.lt h.b1.lt h.b2.lt
theorem blk_at {w : World} {cs : Array Value} {T : TypeId} {N : Nat} (h : w.heap.size = N) : Blk (w.alloc (.cells cs T)) N cs T := h ▸ Blk.new w cs T
theorem KSt.new (w : World) (N : Nat) (hN : N = w.heap.size) : KSt w (((((w.alloc (.cells #[.int .i64 0] 3)).alloc (.cells #[.int .i64 1] 3)).alloc (.cells (kcells N (N + 1)) 62)).alloc (.cells #[.slice (some ⟨N + 1 + 1, 0, none⟩) 3 3] 24)).alloc (.cells #[.int .i64 1, .int .i64 4, .int .i64 0] 47)) N := by
  subst hN
  generalize hK : kcells w.heap.size (w.heap.size + 1) = K
  refine ⟨(((((Below.refl _ w).alloc (Nat.le_refl _) _).alloc (by simp) _).alloc (by simp; omega) _).alloc (by simp; omega) _).alloc (by simp; omega) _, ((((Blk.new _ _ _).alloc _).alloc _).alloc _).alloc _, (((blk_at (by simp)).alloc _).alloc _).alloc _, ?_, (blk_at (by simp)).alloc _, blk_at (by simp)⟩
  rw [hK]
  exact ((blk_at (by simp)).alloc _).alloc _

/-- A stamp's value. -/
theorem stamp_agg {w : World} {B : Nat} {cs : Array Value} {x : TStamp} (h : RStamp B w (Value.cells (.agg cs)).toList x) : cs = #[.int .i64 x.fLoc, .int .i64 x.fT.fEpoch, .int .i64 x.fT.fRound] ∧ (Lit.int .i64 x.fLoc).wf = true ∧ (Lit.int .i64 x.fT.fEpoch).wf = true ∧ (Lit.int .i64 x.fT.fRound).wf = true := by
  obtain ⟨h1, h2, h3, h4⟩ := h
  exact ⟨by cases cs; simpa [Value.cells] using h1, h2, h3, h4⟩

def CBS (w : World) (ao : Option Addr) (n cap : Nat) (la ea ra lb eb rb : Int) (wx : World) : Prop := wx.cell? ⟨w.heap.size, 0, none⟩ = some (.slice ao n cap) ∧
    wx.cell? ⟨w.heap.size + 1, 0, none⟩ = some (.int .i64 la) ∧ wx.cell? ⟨w.heap.size + 1, 1, none⟩ = some (.int .i64 ea) ∧ wx.cell? ⟨w.heap.size + 1, 2, none⟩ = some (.int .i64 ra) ∧
    wx.cell? ⟨w.heap.size + 1 + 1, 0, none⟩ = some (.int .i64 lb) ∧ wx.cell? ⟨w.heap.size + 1 + 1, 1, none⟩ = some (.int .i64 eb) ∧ wx.cell? ⟨w.heap.size + 1 + 1, 2, none⟩ = some (.int .i64 rb)
end Go.Proofs.Ytjmbafcpbagpdaa

/- Reach: what could come goes on: plain Lean; the walk of ReachGoes. -/
namespace Go.Proofs.Ytjmbafcpbagpdaa
open Go.RowKit Go.Shelf
set_option linter.unusedVariables false
set_option linter.unusedSimpArgs false

theorem couldS_parts {ops : List TOp} {la ea ra lb eb rb : Int} (h : couldS ops la ea ra lb eb rb = true) : (gcheck ops).2 = 0 ∧ goodS ops la ea ra = true ∧ goodS ops lb eb rb = true ∧ wayS ops la ea ra lb eb rb = true := by
  unfold couldS at h
  simpa [Bool.and_eq_true] using h
theorem couldS_mk {ops : List TOp} {la ea ra lb eb rb : Int} (h1 : (gcheck ops).2 = 0) (h2 : goodS ops la ea ra = true) (h3 : goodS ops lb eb rb = true) (h4 : wayS ops la ea ra lb eb rb = true) : couldS ops la ea ra lb eb rb = true := by
  unfold couldS
  rw [decide_eq_true h1, h2, h3, h4]
  rfl
theorem couldS_trans {ops : List TOp} {la ea ra lb eb rb lc ec rc : Int} (h : couldS ops la ea ra lb eb rb = true) (k : couldS ops lb eb rb lc ec rc = true) : couldS ops la ea ra lc ec rc = true := by
  obtain ⟨h1, h2, h3, h4⟩ := couldS_parts h
  obtain ⟨_, _, k3, k4⟩ := couldS_parts k
  refine couldS_mk h1 h2 k3 ?_
  have hG := okG_of_check h1
  obtain ⟨a, rfl, _⟩ := goodS_in h2
  obtain ⟨b, rfl, _⟩ := goodS_in h3
  obtain ⟨c, rfl, _⟩ := goodS_in k3
  unfold wayS at *
  simp only [Int.toNat_natCast, Int.natCast_inj] at *
  by_cases hab : a = b
  · subst hab
    rw [if_pos rfl, leT_iff] at h4
    by_cases hac : a = c
    · subst hac
      rw [if_pos rfl, leT_iff] at k4 ⊢
      dsimp only at *
      omega
    · rw [if_neg hac] at k4 ⊢
      simp only [Bool.and_eq_true, decide_eq_true_eq] at k4 ⊢
      dsimp only at h4
      exact ⟨k4.1, by omega⟩
  · rw [if_neg hab] at h4
    simp only [Bool.and_eq_true, decide_eq_true_eq] at h4
    by_cases hbc : b = c
    · subst hbc
      rw [if_pos rfl, leT_iff] at k4
      rw [if_neg hab]
      simp only [Bool.and_eq_true, decide_eq_true_eq]
      dsimp only at k4
      exact ⟨h4.1, by omega⟩
    · rw [if_neg hbc] at k4
      simp only [Bool.and_eq_true, decide_eq_true_eq] at k4
      have hac : a ≠ c := fun e => by
        subst e
        exact hab (PathG.antisymm hG (rch_iff.1 h4.1) (rch_iff.1 k4.1))
      rw [if_neg hac]
      simp only [Bool.and_eq_true, decide_eq_true_eq]
      exact ⟨rch_iff.2 ((rch_iff.1 h4.1).trans (rch_iff.1 k4.1)), by omega⟩
theorem couldS_self (ops : List TOp) (l e r : Int) : couldS ops l e r l e r = (decide ((gcheck ops).2 = 0) && goodS ops l e r) := by
  unfold couldS wayS
  rw [if_pos rfl, (leT_iff _ _).2 ⟨Int.le_refl _, Int.le_refl _⟩, Bool.and_true]
  cases goodS ops l e r <;> simp

theorem nextS_law {ops : List TOp} {l e r : Int} {x : TStamp} (hx : x ∈ nextS ops l e r) :
    (decide ((gcheck ops).2 = 0) && goodS ops x.fLoc x.fT.fEpoch x.fT.fRound) = true ∧ couldS ops l e r x.fLoc x.fT.fEpoch x.fT.fRound = true ∧ couldS ops x.fLoc x.fT.fEpoch x.fT.fRound l e r = false := by
  unfold nextS at hx
  by_cases hgood : (decide ((gcheck ops).2 = 0) && goodS ops l e r) = true
  · rw [if_pos hgood] at hx
    obtain ⟨hok, hgs⟩ := by simpa [Bool.and_eq_true] using hgood
    have hG := okG_of_check hok
    obtain ⟨k, rfl, hk⟩ := goodS_in hgs
    have hok2 : ops[k]? = some ops[k] := List.getElem?_eq_getElem hk
    have hgT : goodT ⟨e, r⟩ = true := by
      unfold goodS at hgs
      simp only [Bool.and_eq_true] at hgs
      exact hgs.1.2
    have hnn := goodT_nn hgT
    rcases List.mem_append.1 hx with hx | hx
    · unfold furS at hx
      rw [opAt_get hok2] at hx
      by_cases hc : ops[k].fKind = 7 ∧ r < ops[k].fRounds - 1
      · rw [if_pos hc] at hx
        obtain rfl : x = ⟨(k : Nat), ⟨e, r + 1⟩⟩ := by simpa using hx
        have hgT2 : goodT ⟨e, r + 1⟩ = true := by unfold goodT; exact decide_eq_true ⟨hnn.1, by dsimp only; omega⟩
        have hg2 : goodS ops (k : Nat) e (r + 1) = true := by
          rw [goodS_at hok2 hgT2, decide_eq_true hc.1, decide_eq_true (show r + 1 < ops[k].fRounds by omega)]
          simp
        dsimp only
        refine ⟨by rw [decide_eq_true hok, hg2]; rfl, couldS_mk hok hgs hg2 ?_, ?_⟩
        · unfold wayS
          rw [if_pos rfl, leT_iff]
          dsimp only
          omega
        · unfold couldS wayS
          rw [if_pos rfl]
          have : leT ⟨e, r + 1⟩ ⟨e, r⟩ = false := by
            rw [← Bool.not_eq_true, leT_iff]
            dsimp only
            omega
          rw [this]
          simp
      · rw [if_neg hc] at hx
        cases hx
    · obtain ⟨⟨b, j⟩, hu, rfl⟩ := List.mem_map.1 hx
      have hlt := uses_lt hG hu
      obtain ⟨o, ho, _⟩ := mem_usesL.1 hu
      have hedge : EdgeG ops k b := edge_uses.2 ⟨_, hu, rfl⟩
      have hgT2 : goodT ⟨e, 0⟩ = true := by unfold goodT; exact decide_eq_true ⟨hnn.1, Int.le_refl _⟩
      have hg2 : goodS ops (b : Nat) e 0 = true := by
        rw [goodS_at ho hgT2]
        simp
      dsimp only at hlt
      show (decide ((gcheck ops).2 = 0) && goodS ops (b : Nat) e 0) = true ∧ couldS ops (k : Nat) e r (b : Nat) e 0 = true ∧ couldS ops (b : Nat) e 0 (k : Nat) e r = false
      refine ⟨by rw [decide_eq_true hok, hg2]; rfl, couldS_mk hok hgs hg2 ?_, ?_⟩
      · unfold wayS
        rw [if_neg (by omega), Int.toNat_natCast, Int.toNat_natCast, rch_iff.2 (.step hedge (.refl _))]
        simp
      · unfold couldS wayS
        rw [if_neg (by omega), Int.toNat_natCast, Int.toNat_natCast, rch_gt hG hlt.1]
        simp
  · rw [if_neg hgood] at hx
    cases hx

namespace GSt
variable {w wr wr' : World} {ao : Option Addr} {n cap : Nat} {l0 e0 r0 l1 e1 r1 l2 e2 r2 : Int}
end GSt

theorem stamps3_agg {w : World} {B : Nat} {cs : Array Value} {xs : List TStamp} (h : RAr 3 3 (RStamp B) w (Value.cells (.agg cs)).toList xs) :
    ∃ x0 x1 x2 : TStamp, cs = #[.int .i64 x0.fLoc, .int .i64 x0.fT.fEpoch, .int .i64 x0.fT.fRound, .int .i64 x1.fLoc, .int .i64 x1.fT.fEpoch, .int .i64 x1.fT.fRound, .int .i64 x2.fLoc, .int .i64 x2.fT.fEpoch, .int .i64 x2.fT.fRound] := by
  obtain ⟨h1, h2, h3⟩ := h
  match xs, h1, h3 with
  | [x0, x1, x2], _, h3 =>
    have g0 := (h3 0 (by simp)).1
    have g1 := (h3 1 (by simp)).1
    have g2 := (h3 2 (by simp)).1
    refine ⟨x0, x1, x2, ?_⟩
    obtain ⟨l⟩ := cs
    replace h2 : l.length = 9 := by simpa [Value.cells] using h2
    match l, h2 with
    | [a, b, c, d, e, f, g, h, i], _ =>
      simp [Value.cells] at g0 g1 g2
      obtain ⟨rfl, rfl, rfl⟩ := g0
      obtain ⟨rfl, rfl, rfl⟩ := g1
      obtain ⟨rfl, rfl, rfl⟩ := g2
      rfl
end Go.Proofs.Ytjmbafcpbagpdaa
