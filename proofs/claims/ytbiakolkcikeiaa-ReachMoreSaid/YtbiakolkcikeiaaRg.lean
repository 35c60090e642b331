/- Reach: what could come goes on: plain Lean; the walk of ReachGoes. -/
import Derived.Test.YtbiakolkcikeiaaRf
import Derived.Test.YtbiakolkcikeiaaBaseY
namespace Go.Proofs.Ytbiakolkcikeiaa
open Go.RowKit Go.Shelf
set_option linter.unusedVariables false
set_option linter.unusedSimpArgs false

theorem couldS_parts {ops : List TOp} {la ea ra lb eb rb : Int} (h : couldS ops la ea ra lb eb rb = true) : (gcheck ops).2 = 0 ∧ goodS ops la ea ra = true ∧ goodS ops lb eb rb = true ∧ wayS ops la ea ra lb eb rb = true := by
  unfold couldS at h
  simpa [Bool.and_eq_true] using h
theorem couldS_mk {ops : List TOp} {la ea ra lb eb rb : Int} (h1 : (gcheck ops).2 = 0) (h2 : goodS ops la ea ra = true) (h3 : goodS ops lb eb rb = true) (h4 : wayS ops la ea ra lb eb rb = true) : couldS ops la ea ra lb eb rb = true := by
  unfold couldS
  rw [decide_eq_true h1, h2, h3, h4]
  rfl
theorem couldS_trans {ops : List TOp} {la ea ra lb eb rb lc ec rc : Int} (h : couldS ops la ea ra lb eb rb = true) (k : couldS ops lb eb rb lc ec rc = true) : couldS ops la ea ra lc ec rc = true := by
  obtain ⟨h1, h2, h3, h4⟩ := couldS_parts h
  obtain ⟨_, _, k3, k4⟩ := couldS_parts k
  refine couldS_mk h1 h2 k3 ?_
  have hG := okG_of_check h1
  obtain ⟨a, rfl, _⟩ := goodS_in h2
  obtain ⟨b, rfl, _⟩ := goodS_in h3
  obtain ⟨c, rfl, _⟩ := goodS_in k3
  unfold wayS at *
  simp only [Int.toNat_natCast, Int.natCast_inj] at *
  by_cases hab : a = b
  · subst hab
    rw [if_pos rfl, leT_iff] at h4
    by_cases hac : a = c
    · subst hac
      rw [if_pos rfl, leT_iff] at k4 ⊢
      dsimp only at *
      omega
    · rw [if_neg hac] at k4 ⊢
      simp only [Bool.and_eq_true, decide_eq_true_eq] at k4 ⊢
      dsimp only at h4
      exact ⟨k4.1, by omega⟩
  · rw [if_neg hab] at h4
    simp only [Bool.and_eq_true, decide_eq_true_eq] at h4
    by_cases hbc : b = c
    · subst hbc
      rw [if_pos rfl, leT_iff] at k4
      rw [if_neg hab]
      simp only [Bool.and_eq_true, decide_eq_true_eq]
      dsimp only at k4
      exact ⟨h4.1, by omega⟩
    · rw [if_neg hbc] at k4
      simp only [Bool.and_eq_true, decide_eq_true_eq] at k4
      have hac : a ≠ c := fun e => by
        subst e
        exact hab (PathG.antisymm hG (rch_iff.1 h4.1) (rch_iff.1 k4.1))
      rw [if_neg hac]
      simp only [Bool.and_eq_true, decide_eq_true_eq]
      exact ⟨rch_iff.2 ((rch_iff.1 h4.1).trans (rch_iff.1 k4.1)), by omega⟩
theorem couldS_self (ops : List TOp) (l e r : Int) : couldS ops l e r l e r = (decide ((gcheck ops).2 = 0) && goodS ops l e r) := by
  unfold couldS wayS
  rw [if_pos rfl, (leT_iff _ _).2 ⟨Int.le_refl _, Int.le_refl _⟩, Bool.and_true]
  cases goodS ops l e r <;> simp

theorem nextS_law {ops : List TOp} {l e r : Int} {x : TStamp} (hx : x ∈ nextS ops l e r) :
    (decide ((gcheck ops).2 = 0) && goodS ops x.fLoc x.fT.fEpoch x.fT.fRound) = true ∧ couldS ops l e r x.fLoc x.fT.fEpoch x.fT.fRound = true ∧ couldS ops x.fLoc x.fT.fEpoch x.fT.fRound l e r = false := by
  unfold nextS at hx
  by_cases hgood : (decide ((gcheck ops).2 = 0) && goodS ops l e r) = true
  · rw [if_pos hgood] at hx
    obtain ⟨hok, hgs⟩ := by simpa [Bool.and_eq_true] using hgood
    have hG := okG_of_check hok
    obtain ⟨k, rfl, hk⟩ := goodS_in hgs
    have hok2 : ops[k]? = some ops[k] := List.getElem?_eq_getElem hk
    have hgT : goodT ⟨e, r⟩ = true := by
      unfold goodS at hgs
      simp only [Bool.and_eq_true] at hgs
      exact hgs.1.2
    have hnn := goodT_nn hgT
    rcases List.mem_append.1 hx with hx | hx
    · unfold furS at hx
      rw [opAt_get hok2] at hx
      by_cases hc : ops[k].fKind = 7 ∧ r < ops[k].fRounds - 1
      · rw [if_pos hc] at hx
        obtain rfl : x = ⟨(k : Nat), ⟨e, r + 1⟩⟩ := by simpa using hx
        have hgT2 : goodT ⟨e, r + 1⟩ = true := by unfold goodT; exact decide_eq_true ⟨hnn.1, by dsimp only; omega⟩
        have hg2 : goodS ops (k : Nat) e (r + 1) = true := by
          rw [goodS_at hok2 hgT2, decide_eq_true hc.1, decide_eq_true (show r + 1 < ops[k].fRounds by omega)]
          simp
        dsimp only
        refine ⟨by rw [decide_eq_true hok, hg2]; rfl, couldS_mk hok hgs hg2 ?_, ?_⟩
        · unfold wayS
          rw [if_pos rfl, leT_iff]
          dsimp only
          omega
        · unfold couldS wayS
          rw [if_pos rfl]
          have : leT ⟨e, r + 1⟩ ⟨e, r⟩ = false := by
            rw [← Bool.not_eq_true, leT_iff]
            dsimp only
            omega
          rw [this]
          simp
      · rw [if_neg hc] at hx
        cases hx
    · obtain ⟨⟨b, j⟩, hu, rfl⟩ := List.mem_map.1 hx
      have hlt := uses_lt hG hu
      obtain ⟨o, ho, _⟩ := mem_usesL.1 hu
      have hedge : EdgeG ops k b := edge_uses.2 ⟨_, hu, rfl⟩
      have hgT2 : goodT ⟨e, 0⟩ = true := by unfold goodT; exact decide_eq_true ⟨hnn.1, Int.le_refl _⟩
      have hg2 : goodS ops (b : Nat) e 0 = true := by
        rw [goodS_at ho hgT2]
        simp
      dsimp only at hlt
      show (decide ((gcheck ops).2 = 0) && goodS ops (b : Nat) e 0) = true ∧ couldS ops (k : Nat) e r (b : Nat) e 0 = true ∧ couldS ops (b : Nat) e 0 (k : Nat) e r = false
      refine ⟨by rw [decide_eq_true hok, hg2]; rfl, couldS_mk hok hgs hg2 ?_, ?_⟩
      · unfold wayS
        rw [if_neg (by omega), Int.toNat_natCast, Int.toNat_natCast, rch_iff.2 (.step hedge (.refl _))]
        simp
      · unfold couldS wayS
        rw [if_neg (by omega), Int.toNat_natCast, Int.toNat_natCast, rch_gt hG hlt.1]
        simp
  · rw [if_neg hgood] at hx
    cases hx

/-- The variables of ReachGoes. -/
structure GSt (w wr : World) (ao : Option Addr) (n cap : Nat) (l0 e0 r0 l1 e1 r1 l2 e2 r2 : Int) : Prop where
  bel : Below w.heap.size w wr
  g : Blk wr w.heap.size #[.slice ao n cap] 24
  a : Blk wr (w.heap.size + 1) #[.int .i64 l0, .int .i64 e0, .int .i64 r0, .int .i64 l1, .int .i64 e1, .int .i64 r1, .int .i64 l2, .int .i64 e2, .int .i64 r2] 35
namespace GSt
variable {w wr wr' : World} {ao : Option Addr} {n cap : Nat} {l0 e0 r0 l1 e1 r1 l2 e2 r2 : Int}
theorem below (h : GSt w wr ao n cap l0 e0 r0 l1 e1 r1 l2 e2 r2) (k : Below wr.heap.size wr wr') : GSt w wr' ao n cap l0 e0 r0 l1 e1 r1 l2 e2 r2 :=
  ⟨h.bel.trans (k.mono h.bel.size), h.g.below k h.g.lt, h.a.below k h.a.lt⟩
theorem facts (h : GSt w wr ao n cap l0 e0 r0 l1 e1 r1 l2 e2 r2) : wr.cell? ⟨w.heap.size, 0, none⟩ = some (.slice ao n cap) ∧
    wr.cell? ⟨w.heap.size + 1, 0, none⟩ = some (.int .i64 l0) ∧ wr.cell? ⟨w.heap.size + 1, 1, none⟩ = some (.int .i64 e0) ∧ wr.cell? ⟨w.heap.size + 1, 2, none⟩ = some (.int .i64 r0) ∧
    wr.cell? ⟨w.heap.size + 1, 3, none⟩ = some (.int .i64 l1) ∧ wr.cell? ⟨w.heap.size + 1, 4, none⟩ = some (.int .i64 e1) ∧ wr.cell? ⟨w.heap.size + 1, 5, none⟩ = some (.int .i64 r1) ∧
    wr.cell? ⟨w.heap.size + 1, 6, none⟩ = some (.int .i64 l2) ∧ wr.cell? ⟨w.heap.size + 1, 7, none⟩ = some (.int .i64 e2) ∧ wr.cell? ⟨w.heap.size + 1, 8, none⟩ = some (.int .i64 r2) ∧ w.heap.size + 1 < wr.heap.size :=
  ⟨h.g.cellAt rfl, h.a.cellAt rfl, h.a.cellAt rfl, h.a.cellAt rfl, h.a.cellAt rfl, h.a.cellAt rfl, h.a.cellAt rfl, h.a.cellAt rfl, h.a.cellAt rfl, h.a.cellAt rfl, h.a.lt⟩
end GSt

set_option maxRecDepth 100000 in
set_option maxHeartbeats 4000000 in
theorem goes_walk (ops : List TOp) (cap : Nat) (ao : Option Addr) (l0 e0 r0 l1 e1 r1 l2 e2 r2 : Int) (w : World) (hx : SlA w.heap.size 7 (ROp w.heap.size) w ao cap ops) :
    Calls Try.prog 4 #[.agg #[.slice ao ops.length cap], .agg #[.int .i64 l0, .int .i64 e0, .int .i64 r0, .int .i64 l1, .int .i64 e1, .int .i64 r1, .int .i64 l2, .int .i64 e2, .int .i64 r2]] w fun x w' => x = .returned (.bool true) ∧ Below w.heap.size w w' := by
  have hC := fun la ea ra lb eb rb W hb => could_any ops cap ao la ea ra lb eb rb w.heap.size W (Below.size hb) (imp_ops hx hb)
  have hG := fun l e r W hb => Good_any ops cap ao l e r w.heap.size W (Below.size hb) (imp_ops hx hb)
  have hNx := fun W hb => next_any ops cap ao l0 e0 r0 w.heap.size W (Below.size hb) (imp_ops hx hb)
  have h01 := hC l0 e0 r0 l1 e1 r1
  have h12 := hC l1 e1 r1 l2 e2 r2
  have h02 := hC l0 e0 r0 l2 e2 r2
  have h00 := hC l0 e0 r0 l0 e0 r0
  have hg0 := hG l0 e0 r0
  rw [couldS_self] at h00
  generalize (decide ((gcheck ops).2 = 0) && goodS ops l0 e0 r0) = gv at h00 hg0
  have htr : couldS ops l0 e0 r0 l1 e1 r1 = true → couldS ops l1 e1 r1 l2 e2 r2 = true → couldS ops l0 e0 r0 l2 e2 r2 = true := couldS_trans
  generalize couldS ops l0 e0 r0 l1 e1 r1 = v01 at h01 htr
  generalize couldS ops l1 e1 r1 l2 e2 r2 = v12 at h12 htr
  generalize couldS ops l0 e0 r0 l2 e2 r2 = v02 at h02 htr
  have hlaw : ∀ x ∈ nextS ops l0 e0 r0, (∀ W hb, _) ∧ (∀ W hb, _) ∧ (∀ W hb, _) := fun x hm => by
    obtain ⟨q1, q2, q3⟩ := nextS_law hm
    have p1 := hG x.fLoc x.fT.fEpoch x.fT.fRound
    have p2 := hC l0 e0 r0 x.fLoc x.fT.fEpoch x.fT.fRound
    have p3 := hC x.fLoc x.fT.fEpoch x.fT.fRound l0 e0 r0
    rw [q1] at p1
    rw [q2] at p2
    rw [q3] at p3
    exact ⟨p1, p2, p3⟩
  generalize nextS ops l0 e0 r0 = nx at hNx hlaw
  generalize ops.length = n at *
  have hgg : (gv != gv) = false := by simp
  replace htr := Lib.hid htr
  replace h01 := Lib.hid h01
  replace h12 := Lib.hid h12
  replace h02 := Lib.hid h02
  replace h00 := Lib.hid h00
  replace hg0 := Lib.hid hg0
  replace hNx := Lib.hid hNx
  replace hlaw := Lib.hid hlaw
  clear hC hG
  go_enter Try.func4, Try.ntmps4
  go_wp2_with fail
  refine (known_any _).mono ?_
  rintro x w1 ⟨rfl, b1⟩
  have hS : GSt w w1 ao n cap l0 e0 r0 l1 e1 r1 l2 e2 r2 := by
    refine ⟨(by repeat (first | exact Below.refl _ _ | assumption | refine below_drewN ?_ _ | refine Below.drew ?_ | (refine Below.setCell ?_ (by first | omega | (simp; omega) | simp) _) | (refine Below.alloc ?_ (by first | omega | (simp; omega) | simp) _) | (refine Below.trans ?_ (Below.mono (by assumption) (by first | omega | (simp; omega) | simp))))), ((Blk.new _ _ _).alloc _).below b1 (by simp; omega), ?_⟩
    have := Blk.new (w.alloc (.cells #[.slice ao n cap] 24)) #[.int .i64 l0, .int .i64 e0, .int .i64 r0, .int .i64 l1, .int .i64 e1, .int .i64 r1, .int .i64 l2, .int .i64 e2, .int .i64 r2] 35
    rw [World.size_alloc] at this
    exact this.below b1 (by simp)
  clear b1
  go_upto_region 3 with fail
  go_cut [31] from 9 to 31 (fun s wx => s = .bool false ∧ GSt w wx ao n cap l0 e0 r0 l1 e1 r1 l2 e2 r2)
  case first =>
    obtain ⟨c0, c1, c2, c3, c4, c5, c6, c7, c8, c9, cl⟩ := hS.facts
    go_wp2_with fail
    refine (h01.out _ hS.bel).mono ?_
    rintro x wz ⟨rfl, bz⟩
    dsimp only
    replace hS := hS.below bz
    clear bz c0 c1 c2 c3 c4 c5 c6 c7 c8 c9 cl
    obtain ⟨c0, c1, c2, c3, c4, c5, c6, c7, c8, c9, cl⟩ := hS.facts
    cases v01 with
    | false =>
      go_wp2_with fail
      go_meet
      case rel => exact ⟨rfl, hS⟩
    | true =>
      go_wp2_with fail
      refine (h12.out _ hS.bel).mono ?_
      rintro x wz ⟨rfl, bz⟩
      dsimp only
      replace hS := hS.below bz
      clear bz c0 c1 c2 c3 c4 c5 c6 c7 c8 c9 cl
      obtain ⟨c0, c1, c2, c3, c4, c5, c6, c7, c8, c9, cl⟩ := hS.facts
      cases v12 with
      | false =>
        go_wp2_with fail
        go_meet
        case rel => exact ⟨rfl, hS⟩
      | true =>
        obtain rfl : v02 = true := htr.out (by trivial) (by trivial)
        go_wp2_with fail
        refine (h02.out _ hS.bel).mono ?_
        rintro x wz ⟨rfl, bz⟩
        dsimp only
        replace hS := hS.below bz
        clear bz c0 c1 c2 c3 c4 c5 c6 c7 c8 c9 cl
        obtain ⟨c0, c1, c2, c3, c4, c5, c6, c7, c8, c9, cl⟩ := hS.facts
        go_wp2_with fail
        go_meet
        case rel => exact ⟨rfl, hS⟩
  case rest =>
    clear hS h01 h12 h02 htr
    obtain ⟨rfl, hS⟩ := hcut
    obtain ⟨c0, c1, c2, c3, c4, c5, c6, c7, c8, c9, cl⟩ := hS.facts
    go_wp2_with fail
    have hsz := hS.bel.size
    have q0 := Wd.cell c0 (show w.heap.size < wc.heap.size by omega)
    have q1 := Wd.cell c1 cl
    have q2 := Wd.cell c2 cl
    have q3 := Wd.cell c3 cl
    clear c0 c1 c2 c3 c4 c5 c6 c7 c8 c9 cl
    refine wp_region_below (by kernel_rfl) (by kernel_rfl) ?_
    repeat (go_big_quiet_step (first | (go_at_call 11; exact Calls.quiet_below (h00.out _ (Below.trans hS.bel (Below.mono (Wd.h _) hsz)))) | (go_at_call 9; exact Calls.quiet_below (hg0.out _ (Below.trans hS.bel (Below.mono (Wd.h _) hsz))))))
    refine wpQuiet_nil ?_
    rintro _ ⟨u, rfl⟩
    have hS2 := hS.below u.h
    clear q0 q1 q2 q3
    obtain ⟨c0, c1, c2, c3, c4, c5, c6, c7, c8, c9, cl⟩ := hS2.facts
    go_wp2_with fail
    refine (hNx.out _ hS2.bel).mono ?_
    rintro x w5 ⟨b5, v, rfl, hown⟩
    have hS5 := hS2.below b5
    obtain ⟨av, cv, rfl, hsv⟩ := hown.sla encS_len (E := ES) (fun _ _ => rfl)
    clear b5 hown hS2 hS c0 c1 c2 c3 c4 c5 c6 c7 c8 c9 cl
    obtain ⟨nl, hnl⟩ : ∃ nl, nl = nx.length := ⟨_, rfl⟩
    have hnll := hsv.len
    rw [← hnl] at hnll ⊢
    replace hnl := Lib.hid hnl
    dsimp only
    go_wp2_with fail
    go_loopw [6] (fun x6 wr => ∃ i : Nat, i ≤ nl ∧ x6 = .int .i64 i ∧ Below w5.heap.size w5 wr) (fun x6 _ => nl - (intOf x6).toNat)
    case atStart => exact ⟨0, Nat.zero_le _, rfl, Below.refl _ _⟩
    case round =>
      obtain ⟨i, hin, rfl, hbel⟩ := hrel
      by_cases hlt : i < nl
      · have hix : i < nx.length := by rw [← hnl.out]; exact hlt
        obtain ⟨b1, o1, rfl, hb1, _⟩ := hsv.addr (by omega)
        obtain ⟨x, hx2⟩ : ∃ x, nx[i] = x := ⟨_, rfl⟩
        obtain ⟨g0, g1, g2⟩ := es_at (imp_es hsv hbel) hix hx2
        obtain ⟨p1, p2, p3⟩ := hlaw.out x (by rw [← hx2]; exact List.getElem_mem hix)
        have hS := hS5.below hbel
        obtain ⟨c0, c1, c2, c3, c4, c5, c6, c7, c8, c9, cl⟩ := hS.facts
        have hsz := hS.bel.size
        have hsz5 := hbel.size
        have q0 := Wd.cell c0 (show w.heap.size < wr.heap.size by omega)
        have q1 := Wd.cell c1 cl
        have q2 := Wd.cell c2 cl
        have q3 := Wd.cell c3 cl
        have q4 := Wd.cell g0 (show b1 < wr.heap.size by omega)
        have q5 := Wd.cell g1 (show b1 < wr.heap.size by omega)
        have q6 := Wd.cell g2 (show b1 < wr.heap.size by omega)
        replace p1 := Lib.hid p1
        replace p2 := Lib.hid p2
        replace p3 := Lib.hid p3
        clear c0 c1 c2 c3 c4 c5 c6 c7 c8 c9 cl g0 g1 g2 hx2 hsv hS5
        generalize x.fLoc = xl at *
        generalize x.fT.fEpoch = xe at *
        generalize x.fT.fRound = xr at *
        go_wp2_with fail
        refine wp_region_below (by kernel_rfl) (by kernel_rfl) ?_
        repeat (go_big_quiet_step (first | (go_at_call 9; exact Calls.quiet_below (p1.out _ (Below.trans hS.bel (Below.mono (Wd.h _) hsz)))) | (go_at_call 11; first | (with_reducible exact Calls.quiet_below (p2.out _ (Below.trans hS.bel (Below.mono (Wd.h _) hsz)))) | (with_reducible exact Calls.quiet_below (p3.out _ (Below.trans hS.bel (Below.mono (Wd.h _) hsz)))))))
        refine wpQuiet_nil ?_
        rintro _ ⟨u, rfl⟩
        have hbu := hbel.trans (u.h.mono hsz5)
        go_wp2_with fail
        go_roundw
        case rel => exact ⟨i + 1, by omega, by go_num, hbu⟩
        case measure => simp [intOf]; omega
      · obtain rfl : i = nl := by omega
        go_wp2_with fail
        go_ret
        exact ⟨rfl, hS5.bel.trans (hbel.mono hS5.bel.size)⟩

theorem stamps3_agg {w : World} {B : Nat} {cs : Array Value} {xs : List TStamp} (h : RAr 3 3 (RStamp B) w (Value.cells (.agg cs)).toList xs) :
    ∃ x0 x1 x2 : TStamp, cs = #[.int .i64 x0.fLoc, .int .i64 x0.fT.fEpoch, .int .i64 x0.fT.fRound, .int .i64 x1.fLoc, .int .i64 x1.fT.fEpoch, .int .i64 x1.fT.fRound, .int .i64 x2.fLoc, .int .i64 x2.fT.fEpoch, .int .i64 x2.fT.fRound] := by
  obtain ⟨h1, h2, h3⟩ := h
  match xs, h1, h3 with
  | [x0, x1, x2], _, h3 =>
    have g0 := (h3 0 (by simp)).1
    have g1 := (h3 1 (by simp)).1
    have g2 := (h3 2 (by simp)).1
    refine ⟨x0, x1, x2, ?_⟩
    obtain ⟨l⟩ := cs
    replace h2 : l.length = 9 := by simpa [Value.cells] using h2
    match l, h2 with
    | [a, b, c, d, e, f, g, h, i], _ =>
      simp [Value.cells] at g0 g1 g2
      obtain ⟨rfl, rfl, rfl⟩ := g0
      obtain ⟨rfl, rfl, rfl⟩ := g1
      obtain ⟨rfl, rfl, rfl⟩ := g2
      rfl
theorem goes_row {w : World} (cs : Array Value) (x : TGraph) (hx : RGraph w.heap.size w (Value.cells (.agg cs)).toList x) (c1 : Array Value) (x1 : List TStamp) (h1 : RAr 3 3 (RStamp w.heap.size) w (Value.cells (.agg c1)).toList x1) :
    Calls Try.prog 4 #[.agg cs, .agg c1] w fun e w' => e = .returned (.bool true) ∧ Below w.heap.size w w' := by
  obtain ⟨ao, cap, rfl, hs⟩ := graph_agg hx
  obtain ⟨y0, y1, y2, rfl⟩ := stamps3_agg h1
  exact goes_walk x.fOps cap ao _ _ _ _ _ _ _ _ _ w hs
end Go.Proofs.Ytbiakolkcikeiaa
