/- Reach: the reference's Good. -/
import Derived.Test.YtbiakolkcikeiaaRa
namespace Go.Proofs.Ytbiakolkcikeiaa
open Go.RowKit
set_option linter.unusedVariables false
set_option linter.unusedSimpArgs false

theorem ok_at {ops : List TOp} (h : (gcheck ops).2 = 0) {k : Nat} {o : TOp} (ho : ops[k]? = some o) : okB o k ops.length = true := by
  obtain ⟨hb, rfl⟩ := List.getElem?_eq_some_iff.1 ho
  unfold gcheck at h
  by_cases hl : ops.length < 1 ∨ 16 < ops.length
  · rw [if_pos hl] at h; simp at h
  rw [if_neg hl] at h
  cases hbf : badFrom ops.length ops 0 with
  | some i => rw [hbf] at h; simp at h
  | none => simpa using badFrom_some ops 0 hbf k hb
theorem rounds_at {ops : List TOp} (h : (gcheck ops).2 = 0) {k : Nat} {o : TOp} (ho : ops[k]? = some o) (h7 : o.fKind = 7) : 1 ≤ o.fRounds ∧ o.fRounds ≤ 16 := by
  have h1 := ok_at h ho
  unfold okB at h1
  simp only [Bool.and_eq_true] at h1
  have h2 : formB o = true := h1.1.1.1
  unfold formB at h2
  rw [h7] at h2
  simp at h2
  omega

set_option maxRecDepth 100000 in
set_option maxHeartbeats 2000000 in
theorem rGood_any (ops : List TOp) (cap : Nat) (ao : Option Addr) (l e r : Int) (B : Nat) (w : World) (hB : B ≤ w.heap.size) (hx : SlA B 7 (ROp B) w ao cap ops) :
    Calls Try.prog 10 #[.agg #[.slice ao ops.length cap], .agg #[.int .i64 l, .int .i64 e, .int .i64 r]] w fun x w' => x = .returned (.bool (decide ((gcheck ops).2 = 0) && goodS ops l e r)) ∧ Below w.heap.size w w' := by
  have hg := fun W hb => rcheck_all ops cap ao W B (Nat.le_trans hB (Below.size hb)) (imp_ops hx (hb.mono hB))
  have hgd := fun W => rgood_any e r W
  have hlen := hx.len
  obtain ⟨n, hn⟩ : ∃ n, n = ops.length := ⟨_, rfl⟩
  rw [← hn] at hg hlen ⊢
  obtain ⟨er, her⟩ : ∃ er, er = (gcheck ops).2 := ⟨_, rfl⟩
  rw [← her] at hg ⊢
  by_cases h0 : er = 0
  · subst h0
    rw [show (decide ((0 : Nat) = 0) && goodS ops l e r) = goodS ops l e r by simp]
    by_cases hin : 0 ≤ l ∧ l < n
    · obtain ⟨k, rfl⟩ : ∃ k : Nat, l = k := ⟨l.toNat, by omega⟩
      have hk : k < ops.length := by omega
      obtain ⟨gb, goff, rfl, hgb, hq⟩ := hx.addr (by omega)
      clear hq
      obtain ⟨o, ho⟩ : ∃ o, ops[k] = o := ⟨_, rfl⟩
      have hok : ops[k]? = some o := by rw [List.getElem?_eq_getElem hk, ho]
      have hr7 := rounds_at her.symm hok
      have hl2 : ∀ W : World, Below w.heap.size w W → W.cell? ⟨gb, goff + k * 7, none⟩ = some (.int .i64 o.fKind) ∧ W.cell? ⟨gb, goff + k * 7 + 4, none⟩ = some (.int .i64 o.fRounds) := fun W hb => by
        obtain ⟨ao1, cap1, e0, e1, e2, e3, e4, _⟩ := ROp.at (imp_ops hx (hb.mono hB)) hk ho
        exact ⟨e0, e4⟩
      have hgw : gb < w.heap.size := by omega
      have d1 : decide ((k : Int) < 0) = false := by simp
      have d2 : decide ((n : Int) ≤ (k : Int)) = false := by simp; omega
      have d3 : decide (n ≤ k) = false := by simp; omega
      replace hn := Lib.hid hn
      replace her := Lib.hid her
      replace hl2 := Lib.hid hl2
      cases hgt : goodT ⟨e, r⟩ with
      | false =>
        rw [goodS_bad hgt]
        rw [hgt] at hgd
        clear hok ho hgt hr7 hl2
        go_enter Try.func10, Try.ntmps10
        go_wp2_with fail
        refine (hg _ ((by repeat (first | exact Below.refl _ _ | assumption | refine below_drewN ?_ _ | refine Below.drew ?_ | (refine Below.setCell ?_ (by first | omega | (simp; omega) | simp) _) | (refine Below.alloc ?_ (by first | omega | (simp; omega) | simp) _) | (refine Below.trans ?_ (Below.mono (by assumption) (by first | omega | (simp; omega) | simp))))))).mono ?_
        rintro x w2 ⟨rfl, b2⟩
        have hbel2 : Below w.heap.size w w2 := (by repeat (first | exact Below.refl _ _ | assumption | refine below_drewN ?_ _ | refine Below.drew ?_ | (refine Below.setCell ?_ (by first | omega | (simp; omega) | simp) _) | (refine Below.alloc ?_ (by first | omega | (simp; omega) | simp) _) | (refine Below.trans ?_ (Below.mono (by assumption) (by first | omega | (simp; omega) | simp)))))
        have hG3 : Blk w2 w.heap.size #[.slice (some ⟨gb, goff, none⟩) n cap] 24 := ((Blk.new _ _ _).alloc _).below b2 (by simp; omega)
        have hS3 : Blk w2 (w.heap.size + 1) #[.int .i64 k, .int .i64 e, .int .i64 r] 28 := by
          have := Blk.new (w.alloc (.cells #[.slice (some ⟨gb, goff, none⟩) n cap] 24)) #[.int .i64 k, .int .i64 e, .int .i64 r] 28
          rw [World.size_alloc] at this
          exact this.below b2 (by simp)
        have g0 := hG3.cellAt (i := 0) (v := .slice (some ⟨gb, goff, none⟩) n cap) rfl
        have s0 := hS3.cellAt (i := 0) (v := .int .i64 k) rfl
        have s1 := hS3.cellAt (i := 1) (v := .int .i64 e) rfl
        have s2 := hS3.cellAt (i := 2) (v := .int .i64 r) rfl
        clear hG3 hS3 b2 hg
        go_wp2_with fail
        refine (hgd _).mono ?_
        rintro x w3 ⟨rfl, b3⟩
        go_wp2_with fail
        go_ret
        exact ⟨rfl, hbel2.trans (b3.mono hbel2.size)⟩
      | true =>
        rw [goodS_at hok hgt]
        rw [hgt] at hgd
        have hnn := goodT_nn hgt
        clear hok ho hgt
        generalize o.fKind = ki at hl2 hr7 ⊢
        generalize o.fRounds = ro at hl2 hr7 ⊢
        obtain ⟨v, hv⟩ : ∃ v, v = (decide (r = 0) || (decide (ki = 7) && decide (r < ro))) := ⟨_, rfl⟩
        rw [← hv]
        have hv7 : ki = 7 → decide (r ≤ ro - 1) = v := fun h => by
          have := hr7 h
          rw [hv, decide_eq_true h, Bool.true_and]
          by_cases h2 : r ≤ ro - 1
          · rw [decide_eq_true h2, decide_eq_true (show r < ro by omega), Bool.or_true]
          · rw [decide_eq_false h2, decide_eq_false (show ¬ r < ro by omega), decide_eq_false (show ¬ r = 0 by omega)]; rfl
        have hv8 : ki ≠ 7 → decide (r ≤ 0) = v := fun h => by
          rw [hv, decide_eq_false h, Bool.false_and, Bool.or_false]
          by_cases h2 : r = 0
          · subst h2; rfl
          · rw [decide_eq_false h2, decide_eq_false (by omega)]
        clear hv
        replace hv7 := Lib.hid hv7
        replace hv8 := Lib.hid hv8
        replace hr7 := Lib.hid hr7
        go_enter Try.func10, Try.ntmps10
        go_wp2_with fail
        refine (hg _ ((by repeat (first | exact Below.refl _ _ | assumption | refine below_drewN ?_ _ | refine Below.drew ?_ | (refine Below.setCell ?_ (by first | omega | (simp; omega) | simp) _) | (refine Below.alloc ?_ (by first | omega | (simp; omega) | simp) _) | (refine Below.trans ?_ (Below.mono (by assumption) (by first | omega | (simp; omega) | simp))))))).mono ?_
        rintro x w2 ⟨rfl, b2⟩
        have hbel2 : Below w.heap.size w w2 := (by repeat (first | exact Below.refl _ _ | assumption | refine below_drewN ?_ _ | refine Below.drew ?_ | (refine Below.setCell ?_ (by first | omega | (simp; omega) | simp) _) | (refine Below.alloc ?_ (by first | omega | (simp; omega) | simp) _) | (refine Below.trans ?_ (Below.mono (by assumption) (by first | omega | (simp; omega) | simp)))))
        have hG3 : Blk w2 w.heap.size #[.slice (some ⟨gb, goff, none⟩) n cap] 24 := ((Blk.new _ _ _).alloc _).below b2 (by simp; omega)
        have hS3 : Blk w2 (w.heap.size + 1) #[.int .i64 k, .int .i64 e, .int .i64 r] 28 := by
          have := Blk.new (w.alloc (.cells #[.slice (some ⟨gb, goff, none⟩) n cap] 24)) #[.int .i64 k, .int .i64 e, .int .i64 r] 28
          rw [World.size_alloc] at this
          exact this.below b2 (by simp)
        have g0 := hG3.cellAt (i := 0) (v := .slice (some ⟨gb, goff, none⟩) n cap) rfl
        have s0 := hS3.cellAt (i := 0) (v := .int .i64 k) rfl
        have s1 := hS3.cellAt (i := 1) (v := .int .i64 e) rfl
        have s2 := hS3.cellAt (i := 2) (v := .int .i64 r) rfl
        clear b2 hg
        go_wp2_with fail
        refine (hgd _).mono ?_
        rintro x w3 ⟨rfl, b3⟩
        have hbel3 := hbel2.trans (b3.mono hbel2.size)
        replace hG3 := hG3.below b3 hG3.lt
        replace hS3 := hS3.below b3 hS3.lt
        clear g0 s0 s1 s2 b3 hbel2
        have g0 := hG3.cellAt (i := 0) (v := .slice (some ⟨gb, goff, none⟩) n cap) rfl
        have s0 := hS3.cellAt (i := 0) (v := .int .i64 k) rfl
        have s1 := hS3.cellAt (i := 1) (v := .int .i64 e) rfl
        have s2 := hS3.cellAt (i := 2) (v := .int .i64 r) rfl
        obtain ⟨f0, f4⟩ := hl2.out w3 hbel3
        clear hG3 hS3
        by_cases h7 : ki = 7
        · have hr := hr7.out h7
          have c7 : (ki == 7) = true := by simpa using h7
          go_wp2_with fail
          go_ret
          refine ⟨?_, hbel3⟩
          show Ending.returned (Value.bool (decide (r ≤ ro - 1))) = _
          rw [hv7.out h7]
        · have c7 : (ki == 7) = false := by simpa using h7
          go_wp2_with fail
          go_ret
          refine ⟨?_, hbel3⟩
          show Ending.returned (Value.bool (decide (r ≤ 0))) = _
          rw [hv8.out h7]
    · rw [goodS_out (by rw [← hn]; exact hin)]
      replace hn := Lib.hid hn
      replace her := Lib.hid her
      clear hgd
      by_cases hl : l < 0
      · have d1 : decide (l < 0) = true := by simpa using hl
        go_enter Try.func10, Try.ntmps10
        go_wp2_with fail
        refine (hg _ ((by repeat (first | exact Below.refl _ _ | assumption | refine below_drewN ?_ _ | refine Below.drew ?_ | (refine Below.setCell ?_ (by first | omega | (simp; omega) | simp) _) | (refine Below.alloc ?_ (by first | omega | (simp; omega) | simp) _) | (refine Below.trans ?_ (Below.mono (by assumption) (by first | omega | (simp; omega) | simp))))))).mono ?_
        rintro x w2 ⟨rfl, b2⟩
        have hbel2 : Below w.heap.size w w2 := (by repeat (first | exact Below.refl _ _ | assumption | refine below_drewN ?_ _ | refine Below.drew ?_ | (refine Below.setCell ?_ (by first | omega | (simp; omega) | simp) _) | (refine Below.alloc ?_ (by first | omega | (simp; omega) | simp) _) | (refine Below.trans ?_ (Below.mono (by assumption) (by first | omega | (simp; omega) | simp)))))
        have hS3 : Blk w2 (w.heap.size + 1) #[.int .i64 l, .int .i64 e, .int .i64 r] 28 := by
          have := Blk.new (w.alloc (.cells #[.slice ao n cap] 24)) #[.int .i64 l, .int .i64 e, .int .i64 r] 28
          rw [World.size_alloc] at this
          exact this.below b2 (by simp)
        have s0 := hS3.cellAt (i := 0) (v := .int .i64 l) rfl
        clear hg hS3 b2
        go_wp2_with fail
        go_ret
        exact ⟨rfl, hbel2⟩
      · have d1 : decide (l < 0) = false := by simpa using hl
        have d2 : decide ((n : Int) ≤ l) = true := by simp; omega
        go_enter Try.func10, Try.ntmps10
        go_wp2_with fail
        refine (hg _ ((by repeat (first | exact Below.refl _ _ | assumption | refine below_drewN ?_ _ | refine Below.drew ?_ | (refine Below.setCell ?_ (by first | omega | (simp; omega) | simp) _) | (refine Below.alloc ?_ (by first | omega | (simp; omega) | simp) _) | (refine Below.trans ?_ (Below.mono (by assumption) (by first | omega | (simp; omega) | simp))))))).mono ?_
        rintro x w2 ⟨rfl, b2⟩
        have hbel2 : Below w.heap.size w w2 := (by repeat (first | exact Below.refl _ _ | assumption | refine below_drewN ?_ _ | refine Below.drew ?_ | (refine Below.setCell ?_ (by first | omega | (simp; omega) | simp) _) | (refine Below.alloc ?_ (by first | omega | (simp; omega) | simp) _) | (refine Below.trans ?_ (Below.mono (by assumption) (by first | omega | (simp; omega) | simp)))))
        have hG3 : Blk w2 w.heap.size #[.slice ao n cap] 24 := ((Blk.new _ _ _).alloc _).below b2 (by simp; omega)
        have hS3 : Blk w2 (w.heap.size + 1) #[.int .i64 l, .int .i64 e, .int .i64 r] 28 := by
          have := Blk.new (w.alloc (.cells #[.slice ao n cap] 24)) #[.int .i64 l, .int .i64 e, .int .i64 r] 28
          rw [World.size_alloc] at this
          exact this.below b2 (by simp)
        have g0 := hG3.cellAt (i := 0) (v := .slice ao n cap) rfl
        have s0 := hS3.cellAt (i := 0) (v := .int .i64 l) rfl
        clear hg hG3 hS3 b2
        go_wp2_with fail
        go_ret
        exact ⟨rfl, hbel2⟩
  · have hne : ((er : Int) != 0) = true := by simpa using h0
    rw [show (decide (er = 0) && goodS ops l e r) = false by simp [h0]]
    replace hn := Lib.hid hn
    replace her := Lib.hid her
    clear h0 hgd
    go_enter Try.func10, Try.ntmps10
    go_wp2_with fail
    refine (hg _ ((by repeat (first | exact Below.refl _ _ | assumption | refine below_drewN ?_ _ | refine Below.drew ?_ | (refine Below.setCell ?_ (by first | omega | (simp; omega) | simp) _) | (refine Below.alloc ?_ (by first | omega | (simp; omega) | simp) _) | (refine Below.trans ?_ (Below.mono (by assumption) (by first | omega | (simp; omega) | simp))))))).mono ?_
    rintro x w3 ⟨rfl, b3⟩
    have hbel : Below w.heap.size w w3 := (by repeat (first | exact Below.refl _ _ | assumption | refine below_drewN ?_ _ | refine Below.drew ?_ | (refine Below.setCell ?_ (by first | omega | (simp; omega) | simp) _) | (refine Below.alloc ?_ (by first | omega | (simp; omega) | simp) _) | (refine Below.trans ?_ (Below.mono (by assumption) (by first | omega | (simp; omega) | simp)))))
    go_wp2_with fail
    go_ret
    exact ⟨rfl, hbel⟩
end Go.Proofs.Ytbiakolkcikeiaa
