/- Reach: Could, and the reference's Could. -/
import Derived.Test.YtbiakolkcikeiaaRb
import Derived.Test.YtbiakolkcikeiaaGx
namespace Go.Proofs.Ytbiakolkcikeiaa
open Go.RowKit
set_option linter.unusedVariables false
set_option linter.unusedSimpArgs false

noncomputable def wayS (ops : List TOp) (la ea ra lb eb rb : Int) : Bool := if la = lb then leT ⟨ea, ra⟩ ⟨eb, rb⟩ else rch ops la.toNat lb.toNat && decide (ea ≤ eb)
noncomputable def couldS (ops : List TOp) (la ea ra lb eb rb : Int) : Bool := decide ((gcheck ops).2 = 0) && (goodS ops la ea ra && (goodS ops lb eb rb && wayS ops la ea ra lb eb rb))
theorem goodS_in {ops : List TOp} {l e r : Int} (h : goodS ops l e r = true) : ∃ k : Nat, l = k ∧ k < ops.length := by
  unfold goodS at h
  simp only [Bool.and_eq_true, decide_eq_true_eq] at h
  exact ⟨l.toNat, by omega, by omega⟩

/-- The three variables of Could. -/
structure CB (w wr : World) (ao : Option Addr) (n cap : Nat) (la ea ra lb eb rb : Int) : Prop where
  bel : Below w.heap.size w wr
  g : Blk wr w.heap.size #[.slice ao n cap] 24
  a : Blk wr (w.heap.size + 1) #[.int .i64 la, .int .i64 ea, .int .i64 ra] 28
  b : Blk wr (w.heap.size + 1 + 1) #[.int .i64 lb, .int .i64 eb, .int .i64 rb] 28
namespace CB
variable {w wr wr' : World} {ao : Option Addr} {n cap : Nat} {la ea ra lb eb rb : Int}
theorem new : CB w (((w.alloc (.cells #[.slice ao n cap] 24)).alloc (.cells #[.int .i64 la, .int .i64 ea, .int .i64 ra] 28)).alloc (.cells #[.int .i64 lb, .int .i64 eb, .int .i64 rb] 28)) ao n cap la ea ra lb eb rb := by
  refine ⟨(((Below.refl _ _).alloc (Nat.le_refl _) _).alloc (by simp) _).alloc (by simp; omega) _, ((Blk.new _ _ _).alloc _).alloc _, ?_, ?_⟩
  · have := (Blk.new (w.alloc (.cells #[.slice ao n cap] 24)) #[.int .i64 la, .int .i64 ea, .int .i64 ra] 28).alloc (.cells #[.int .i64 lb, .int .i64 eb, .int .i64 rb] 28)
    rwa [World.size_alloc] at this
  · have := Blk.new ((w.alloc (.cells #[.slice ao n cap] 24)).alloc (.cells #[.int .i64 la, .int .i64 ea, .int .i64 ra] 28)) #[.int .i64 lb, .int .i64 eb, .int .i64 rb] 28
    rwa [World.size_alloc, World.size_alloc] at this
theorem below (h : CB w wr ao n cap la ea ra lb eb rb) (k : Below wr.heap.size wr wr') : CB w wr' ao n cap la ea ra lb eb rb :=
  ⟨h.bel.trans (k.mono h.bel.size), h.g.below k h.g.lt, h.a.below k h.a.lt, h.b.below k h.b.lt⟩
theorem facts (h : CB w wr ao n cap la ea ra lb eb rb) : wr.cell? ⟨w.heap.size, 0, none⟩ = some (.slice ao n cap) ∧
    wr.cell? ⟨w.heap.size + 1, 0, none⟩ = some (.int .i64 la) ∧ wr.cell? ⟨w.heap.size + 1, 1, none⟩ = some (.int .i64 ea) ∧ wr.cell? ⟨w.heap.size + 1, 2, none⟩ = some (.int .i64 ra) ∧
    wr.cell? ⟨w.heap.size + 1 + 1, 0, none⟩ = some (.int .i64 lb) ∧ wr.cell? ⟨w.heap.size + 1 + 1, 1, none⟩ = some (.int .i64 eb) ∧ wr.cell? ⟨w.heap.size + 1 + 1, 2, none⟩ = some (.int .i64 rb) ∧ w.heap.size + 1 + 1 < wr.heap.size :=
  ⟨h.g.cellAt rfl, h.a.cellAt rfl, h.a.cellAt rfl, h.a.cellAt rfl, h.b.cellAt rfl, h.b.cellAt rfl, h.b.cellAt rfl, h.b.lt⟩
end CB

set_option maxRecDepth 100000 in
set_option maxHeartbeats 4000000 in
theorem could_any (ops : List TOp) (cap : Nat) (ao : Option Addr) (la ea ra lb eb rb : Int) (B : Nat) (w : World) (hB : B ≤ w.heap.size) (hx : SlA B 7 (ROp B) w ao cap ops) :
    Calls Try.prog 11 #[.agg #[.slice ao ops.length cap], .agg #[.int .i64 la, .int .i64 ea, .int .i64 ra], .agg #[.int .i64 lb, .int .i64 eb, .int .i64 rb]] w fun x w' => x = .returned (.bool (couldS ops la ea ra lb eb rb)) ∧ Below w.heap.size w w' := by
  have hp := fun l e r W hb => pgood_any ops cap ao l e r B W (Nat.le_trans hB (Below.size hb)) (imp_ops hx (hb.mono hB))
  by_cases hok : (gcheck ops).2 = 0
  · have hG := okG_of_check hok
    have hR := fun W hb => reaches_ok ops cap ao W B (Nat.le_trans hB (Below.size hb)) (imp_ops hx (hb.mono hB)) hok
    rw [show couldS ops la ea ra lb eb rb = (goodS ops la ea ra && (goodS ops lb eb rb && wayS ops la ea ra lb eb rb)) by unfold couldS; rw [decide_eq_true hok, Bool.true_and]]
    have hpos := hG.pos
    have hmost := hG.most
    have hpa := hp la ea ra
    have hpb := hp lb eb rb
    obtain ⟨n, hn⟩ : ∃ n, n = ops.length := ⟨_, rfl⟩
    rw [← hn] at hR hpa hpb hpos hmost ⊢
    have hne : ((n : Int) == 0) = false := by simp; omega
    have hina : goodS ops la ea ra = true → ∃ k : Nat, la = k ∧ k < n := fun h => by rw [hn]; exact goodS_in h
    have hinb : goodS ops lb eb rb = true → ∃ k : Nat, lb = k ∧ k < n := fun h => by rw [hn]; exact goodS_in h
    obtain ⟨ga, hga⟩ : ∃ g, g = goodS ops la ea ra := ⟨_, rfl⟩
    obtain ⟨gb, hgb⟩ : ∃ g, g = goodS ops lb eb rb := ⟨_, rfl⟩
    obtain ⟨wy, hwy⟩ : ∃ g, g = wayS ops la ea ra lb eb rb := ⟨_, rfl⟩
    rw [← hga] at hpa hina ⊢
    rw [← hgb] at hpb hinb ⊢
    rw [← hwy]
    replace hga := Lib.hid hga
    replace hgb := Lib.hid hgb
    replace hn := Lib.hid hn
    replace hok := Lib.hid hok
    replace hG := Lib.hid hG
    replace hwy := Lib.hid hwy
    replace hinb := Lib.hid hinb
    replace hina := Lib.hid hina
    clear hp
    go_enter Try.func11, Try.ntmps11
    go_wp2_with fail
    have hC0 : CB w _ ao n cap la ea ra lb eb rb := CB.new
    refine (hR _ hC0.bel).mono ?_
    rintro e w1 ⟨v, rfl, ⟨hb, rs, rfl, hP⟩, hb1⟩
    have hC := hC0.below hb1
    obtain ⟨c0, c1, c2, c3, c4, c5, c6, cl⟩ := hC.facts
    clear hb1 hC0 hR
    dsimp only
    go_wp2_with fail
    refine (hpa _ hC.bel).mono ?_
    rintro e w2 ⟨rfl, hb2⟩
    replace hC := hC.below hb2
    replace hP := hP.below hb2 (Nat.le_refl _)
    clear c0 c1 c2 c3 c4 c5 c6 cl hb2 hpa
    obtain ⟨c0, c1, c2, c3, c4, c5, c6, cl⟩ := hC.facts
    cases ga with
    | false =>
      dsimp only
      go_wp2_with fail
      go_ret
      refine ⟨?_, hC.bel⟩
      show Ending.returned (Value.bool false) = _
      rfl
    | true =>
      obtain ⟨ka, rfl, hka⟩ := hina.out (by trivial)
      dsimp only
      go_wp2_with fail
      refine (hpb _ hC.bel).mono ?_
      rintro e w3 ⟨rfl, hb2⟩
      replace hC := hC.below hb2
      replace hP := hP.below hb2 (Nat.le_refl _)
      clear c0 c1 c2 c3 c4 c5 c6 cl hb2 hpb
      obtain ⟨c0, c1, c2, c3, c4, c5, c6, cl⟩ := hC.facts
      cases gb with
      | false =>
        dsimp only
        go_wp2_with fail
        go_ret
        refine ⟨?_, hC.bel⟩
        show Ending.returned (Value.bool false) = _
        rfl
      | true =>
        obtain ⟨kb, rfl, hkb⟩ := hinb.out (by trivial)
        dsimp only
        by_cases hab : ka = kb
        · have heq : ((ka : Int) == (kb : Int)) = true := by rw [hab]; simp
          have hw2 : wy = leT ⟨ea, ra⟩ ⟨eb, rb⟩ := by rw [hwy.out]; unfold wayS; rw [if_pos (by omega)]
          go_wp2_with fail
          refine (le_any ea ra eb rb _).mono ?_
          rintro e w4 ⟨rfl, hb4⟩
          go_wp2_with fail
          go_ret
          refine ⟨?_, hC.bel.trans (hb4.mono hC.bel.size)⟩
          show Ending.returned (Value.bool (leT ⟨ea, ra⟩ ⟨eb, rb⟩)) = _
          rw [← hw2]; rfl
        · have heq : ((ka : Int) == (kb : Int)) = false := by simp; omega
          have hw2 : wy = (rch ops ka kb && decide (ea ≤ eb)) := by rw [hwy.out]; unfold wayS; rw [if_neg (by omega), Int.toNat_natCast, Int.toNat_natCast]
          obtain ⟨rr, h1, h2⟩ := hP.hcell (Nat.zero_le ka) hka
          have h3 := hP.rcell (Nat.zero_le ka) h1 hkb
          generalize rch ops ka kb = rv at hw2 h3
          replace hw2 := Lib.hid hw2
          clear h1 hab
          cases rv with
          | false =>
            go_wp2_with fail
            go_quiet (fail)
            go_wp2_with fail
            go_ret
            refine ⟨?_, below_drewN hC.bel _⟩
            rw [hw2.out]; rfl
          | true =>
            go_wp2_with fail
            go_quiet (fail)
            go_wp2_with fail
            go_ret
            refine ⟨?_, below_drewN hC.bel _⟩
            rw [hw2.out]
            simp
  · have hR := fun W hb => reaches_no ops cap ao W B (Nat.le_trans hB (Below.size hb)) (imp_ops hx (hb.mono hB)) hok
    rw [show couldS ops la ea ra lb eb rb = false by unfold couldS; rw [decide_eq_false hok, Bool.false_and]]
    clear hp
    generalize ops.length = n at hR ⊢
    go_enter Try.func11, Try.ntmps11
    go_wp2_with fail
    have hC0 : CB w _ ao n cap la ea ra lb eb rb := CB.new
    refine (hR _ hC0.bel).mono ?_
    rintro e w1 ⟨rfl, hb1⟩
    have hC := hC0.below hb1
    go_wp2_with fail
    go_ret
    exact ⟨rfl, hC.bel⟩

set_option maxRecDepth 100000 in
set_option maxHeartbeats 4000000 in
theorem rcould_any (ops : List TOp) (cap : Nat) (ao : Option Addr) (la ea ra lb eb rb : Int) (B : Nat) (w : World) (hB : B ≤ w.heap.size) (hx : SlA B 7 (ROp B) w ao cap ops) :
    Calls Try.prog 12 #[.agg #[.slice ao ops.length cap], .agg #[.int .i64 la, .int .i64 ea, .int .i64 ra], .agg #[.int .i64 lb, .int .i64 eb, .int .i64 rb]] w fun x w' => x = .returned (.bool (couldS ops la ea ra lb eb rb)) ∧ Below w.heap.size w w' := by
  have hp := fun l e r W hb => rGood_any ops cap ao l e r B W (Nat.le_trans hB (Below.size hb)) (imp_ops hx (hb.mono hB))
  have hpa := hp la ea ra
  have hpb := hp lb eb rb
  have hQ := fun (hok : (gcheck ops).2 = 0) (gb goff : Nat) (e : ao = some ⟨gb, goff, none⟩) (a b : Nat) (hb : b < ops.length) (ha : a < ops.length) W hw => rreach_any ops cap gb goff B (okG_of_check hok) (b + 1) b a W (by omega) (Nat.le_trans hB (Below.size hw)) (by rw [← e]; exact imp_ops hx (Below.mono hw hB)) hb ha
  obtain ⟨ga, hga⟩ : ∃ g, g = (decide ((gcheck ops).2 = 0) && goodS ops la ea ra) := ⟨_, rfl⟩
  obtain ⟨gv, hgv⟩ : ∃ g, g = (decide ((gcheck ops).2 = 0) && goodS ops lb eb rb) := ⟨_, rfl⟩
  rw [← hga] at hpa
  rw [← hgv] at hpb
  have hcs : couldS ops la ea ra lb eb rb = (ga && (gv && wayS ops la ea ra lb eb rb)) := by
    rw [hga, hgv]
    unfold couldS
    cases decide ((gcheck ops).2 = 0) <;> simp
  rw [hcs]
  clear hcs hp
  have hwy : ga = true → gv = true → ∃ ka kb gb goff : Nat, la = ka ∧ lb = kb ∧ ka < ops.length ∧ kb < ops.length ∧ ao = some ⟨gb, goff, none⟩ ∧ (gcheck ops).2 = 0 := fun h1 h2 => by
    rw [hga] at h1
    rw [hgv] at h2
    simp only [Bool.and_eq_true, decide_eq_true_eq] at h1 h2
    obtain ⟨ka, e1, e2⟩ := goodS_in h1.2
    obtain ⟨kb, e3, e4⟩ := goodS_in h2.2
    obtain ⟨gb, goff, e5, _⟩ := hx.addr (by omega)
    exact ⟨ka, kb, gb, goff, e1, e3, e2, e4, e5, h1.1⟩
  obtain ⟨wy, hw⟩ : ∃ g, g = wayS ops la ea ra lb eb rb := ⟨_, rfl⟩
  rw [← hw]
  obtain ⟨n, hn⟩ : ∃ n, n = ops.length := ⟨_, rfl⟩
  rw [← hn] at hpa hpb hQ hwy ⊢
  replace hga := Lib.hid hga
  replace hgv := Lib.hid hgv
  replace hn := Lib.hid hn
  replace hw := Lib.hid hw
  replace hwy := Lib.hid hwy
  replace hQ := Lib.hid hQ
  go_enter Try.func12, Try.ntmps12
  go_wp2_with fail
  have hC : CB w _ ao n cap la ea ra lb eb rb := CB.new
  refine (hpa _ hC.bel).mono ?_
  rintro e w2 ⟨rfl, hb2⟩
  replace hC := hC.below hb2
  clear hb2 hpa
  obtain ⟨c0, c1, c2, c3, c4, c5, c6, cl⟩ := hC.facts
  cases ga with
  | false =>
    dsimp only
    go_wp2_with fail
    go_ret
    refine ⟨?_, hC.bel⟩
    show Ending.returned (Value.bool false) = _
    rfl
  | true =>
    dsimp only
    go_wp2_with fail
    refine (hpb _ hC.bel).mono ?_
    rintro e w3 ⟨rfl, hb2⟩
    replace hC := hC.below hb2
    clear c0 c1 c2 c3 c4 c5 c6 cl hb2 hpb
    obtain ⟨c0, c1, c2, c3, c4, c5, c6, cl⟩ := hC.facts
    cases gv with
    | false =>
      dsimp only
      go_wp2_with fail
      go_ret
      refine ⟨?_, hC.bel⟩
      show Ending.returned (Value.bool false) = _
      rfl
    | true =>
      obtain ⟨ka, kb, gb, goff, rfl, rfl, hka, hkb, rfl, hok⟩ := hwy.out (by trivial) (by trivial)
      have hQ2 := hQ.out hok gb goff rfl ka kb hkb hka
      replace hok := Lib.hid hok
      dsimp only
      by_cases hab : ka = kb
      · have heq : ((ka : Int) == (kb : Int)) = true := by rw [hab]; simp
        have hw2 : wy = leT ⟨ea, ra⟩ ⟨eb, rb⟩ := by rw [hw.out]; unfold wayS; rw [if_pos (by omega)]
        replace hw2 := Lib.hid hw2
        go_wp2_with fail
        refine (rle_any ea ra eb rb _).mono ?_
        rintro e w4 ⟨rfl, hb4⟩
        go_wp2_with fail
        go_ret
        refine ⟨?_, hC.bel.trans (hb4.mono hC.bel.size)⟩
        show Ending.returned (Value.bool (leT ⟨ea, ra⟩ ⟨eb, rb⟩)) = _
        rw [← hw2.out]; rfl
      · have heq : ((ka : Int) == (kb : Int)) = false := by simp; omega
        have hw2 : wy = (rch ops ka kb && decide (ea ≤ eb)) := by rw [hw.out]; unfold wayS; rw [if_neg (by omega), Int.toNat_natCast, Int.toNat_natCast]
        generalize rch ops ka kb = rv at hw2 hQ2
        replace hw2 := Lib.hid hw2
        clear hab
        go_wp2_with fail
        refine (hQ2 _ hC.bel).mono ?_
        rintro e w4 ⟨rfl, hb4⟩
        replace hC := hC.below hb4
        clear c0 c1 c2 c3 c4 c5 c6 cl hb4 hQ2
        obtain ⟨c0, c1, c2, c3, c4, c5, c6, cl⟩ := hC.facts
        cases rv with
        | false =>
          dsimp only
          go_wp2_with fail
          go_ret
          refine ⟨?_, hC.bel⟩
          rw [hw2.out]; rfl
        | true =>
          dsimp only
          go_wp2_with fail
          go_ret
          refine ⟨?_, hC.bel⟩
          rw [hw2.out]
          simp
end Go.Proofs.Ytbiakolkcikeiaa
