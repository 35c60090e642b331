/- Reach: what a front covers could come: plain Lean; the walk of ReachFronts. -/
import Derived.Test.YtbiakolkcikeiaaRi
import Derived.Test.YtbiakolkcikeiaaBaseY
namespace Go.Proofs.Ytbiakolkcikeiaa
open Go.RowKit Go.Shelf
set_option linter.unusedVariables false
set_option linter.unusedSimpArgs false

theorem could_covers {ops : List TOp} {L : List TStamp} {l e r : Int} (hg : (decide ((gcheck ops).2 = 0) && goodS ops l e r) = true) :
    L.any (fun s => couldS ops s.fLoc s.fT.fEpoch s.fT.fRound l e r) = coversT (timesS ops l L) ⟨e, r⟩ := by
  obtain ⟨hok, hgs⟩ := by simpa [Bool.and_eq_true] using hg
  obtain ⟨k, rfl, hk⟩ := goodS_in hgs
  have hgT : goodT ⟨e, r⟩ = true := by
    have h := hgs
    unfold goodS at h
    simp only [Bool.and_eq_true] at h
    exact h.1.2
  have hnn := goodT_nn hgT
  unfold timesS timesF coversT
  rw [if_pos ⟨hok, by omega, by omega⟩, List.any_flatMap]
  congr 1
  funext s
  unfold couldS timeOf wayS
  rw [decide_eq_true hok, hgs, Bool.true_and, Bool.true_and]
  by_cases hs : goodS ops s.fLoc s.fT.fEpoch s.fT.fRound = true
  · have hsT : goodT ⟨s.fT.fEpoch, s.fT.fRound⟩ = true := by
      have h := hs
      unfold goodS at h
      simp only [Bool.and_eq_true] at h
      exact h.1.2
    have hsn := goodT_nn hsT
    rw [if_pos hs, hs, Bool.true_and]
    by_cases hl : s.fLoc = (k : Nat)
    · rw [if_pos hl, if_pos hl]
      show _ = ((goodT ⟨s.fT.fEpoch, s.fT.fRound⟩ && leT ⟨s.fT.fEpoch, s.fT.fRound⟩ ⟨e, r⟩) || false)
      rw [hsT, Bool.true_and, Bool.or_false]
    · rw [if_neg hl, if_neg hl]
      cases rch ops s.fLoc.toNat ((k : Nat) : Int).toNat with
      | false => rfl
      | true =>
        rw [if_pos rfl]
        show _ = ((goodT ⟨s.fT.fEpoch, 0⟩ && leT ⟨s.fT.fEpoch, 0⟩ ⟨e, r⟩) || false)
        rw [show goodT ⟨s.fT.fEpoch, 0⟩ = true from decide_eq_true ⟨hsn.1, Int.le_refl _⟩, Bool.true_and, Bool.true_and, Bool.or_false]
        unfold leT
        exact decide_eq_decide.2 ⟨fun h => ⟨h, hnn.2⟩, fun h => h.1⟩
  · rw [if_neg hs]
    rw [Bool.not_eq_true] at hs
    rw [hs]
    rfl

/-- The variables of ReachFronts. -/
structure FSt (w wr : World) (ao : Option Addr) (n cap : Nat) (l0 e0 r0 : Int) : Prop where
  bel : Below w.heap.size w wr
  g : Blk wr w.heap.size #[.slice ao n cap] 24
  a : Blk wr (w.heap.size + 1) #[.int .i64 l0, .int .i64 e0, .int .i64 r0] 28
namespace FSt
variable {w wr wr' : World} {ao : Option Addr} {n cap : Nat} {l0 e0 r0 : Int}
theorem below (h : FSt w wr ao n cap l0 e0 r0) (k : Below wr.heap.size wr wr') : FSt w wr' ao n cap l0 e0 r0 :=
  ⟨h.bel.trans (k.mono h.bel.size), h.g.below k h.g.lt, h.a.below k h.a.lt⟩
theorem facts (h : FSt w wr ao n cap l0 e0 r0) : wr.cell? ⟨w.heap.size, 0, none⟩ = some (.slice ao n cap) ∧
    wr.cell? ⟨w.heap.size + 1, 0, none⟩ = some (.int .i64 l0) ∧ wr.cell? ⟨w.heap.size + 1, 1, none⟩ = some (.int .i64 e0) ∧ wr.cell? ⟨w.heap.size + 1, 2, none⟩ = some (.int .i64 r0) ∧ w.heap.size + 1 < wr.heap.size :=
  ⟨h.g.cellAt rfl, h.a.cellAt rfl, h.a.cellAt rfl, h.a.cellAt rfl, h.a.lt⟩
end FSt

set_option maxRecDepth 100000 in
set_option maxHeartbeats 4000000 in
theorem rfronts_walk (ops : List TOp) (cap : Nat) (ao : Option Addr) (L : List TStamp) (c2 : Nat) (ao2 : Option Addr) (l0 e0 r0 : Int) (w : World) (hx : SlA w.heap.size 7 (ROp w.heap.size) w ao cap ops)
    (hl : SlA w.heap.size 3 (RStamp w.heap.size) w ao2 c2 L) (hz : (L.length + 1) * 16 ≤ 140737488351232) :
    Calls Try.prog 7 #[.agg #[.slice ao ops.length cap], .slice ao2 L.length c2, .agg #[.int .i64 l0, .int .i64 e0, .int .i64 r0]] w fun x w' => x = .returned (.bool true) ∧ Below w.heap.size w w' := by
  have hC := fun (x : TStamp) W hb => could_any ops cap ao x.fLoc x.fT.fEpoch x.fT.fRound l0 e0 r0 w.heap.size W (Below.size hb) (imp_ops hx hb)
  have hG := fun W hb => Good_any ops cap ao l0 e0 r0 w.heap.size W (Below.size hb) (imp_ops hx hb)
  have hP := fun W hb => pfront_any ops cap ao L c2 ao2 l0 w.heap.size W (Below.size hb) (imp_ops hx hb) (imp_stamps hl hb) hz
  have hR := fun W hb => rpfront_any ops cap ao L c2 ao2 l0 w.heap.size W (Below.size hb) (imp_ops hx hb) (imp_stamps hl hb) hz
  have hlaw := could_covers (ops := ops) (L := L) (l := l0) (e := e0) (r := r0)
  generalize (decide ((gcheck ops).2 = 0) && goodS ops l0 e0 r0) = gv at hG hlaw
  generalize timesS ops l0 L = TS at hP hR hlaw
  obtain ⟨cf, hcf⟩ : ∃ cf : TStamp → Bool, cf = fun s => couldS ops s.fLoc s.fT.fEpoch s.fT.fRound l0 e0 r0 := ⟨_, rfl⟩
  rw [← hcf] at hlaw
  replace hC : ∀ (x : TStamp) (W : World) (hb : Below w.heap.size w W), Calls Try.prog 11 #[.agg #[.slice ao ops.length cap], .agg #[.int .i64 x.fLoc, .int .i64 x.fT.fEpoch, .int .i64 x.fT.fRound], .agg #[.int .i64 l0, .int .i64 e0, .int .i64 r0]] W fun y w' => y = .returned (.bool (cf x)) ∧ Below W.heap.size W w' := by rw [hcf]; exact hC
  clear hcf
  have hll := hl.len
  obtain ⟨m, hm⟩ : ∃ m, m = L.length := ⟨_, rfl⟩
  rw [← hm] at hz hll hP hR ⊢
  generalize ops.length = n at *
  replace hm := Lib.hid hm
  replace hlaw := Lib.hid hlaw
  replace hC := Lib.hid hC
  replace hG := Lib.hid hG
  replace hP := Lib.hid hP
  replace hR := Lib.hid hR
  go_enter Try.func7, Try.ntmps7
  go_wp2_with fail
  refine (known_any _).mono ?_
  rintro x w1 ⟨rfl, b1⟩
  have hS : FSt w w1 ao n cap l0 e0 r0 := by
    refine ⟨(by repeat (first | exact Below.refl _ _ | assumption | refine below_drewN ?_ _ | refine Below.drew ?_ | (refine Below.setCell ?_ (by first | omega | (simp; omega) | simp) _) | (refine Below.alloc ?_ (by first | omega | (simp; omega) | simp) _) | (refine Below.trans ?_ (Below.mono (by assumption) (by first | omega | (simp; omega) | simp))))), ((Blk.new _ _ _).alloc _).below b1 (by simp; omega), ?_⟩
    have := Blk.new (w.alloc (.cells #[.slice ao n cap] 24)) #[.int .i64 l0, .int .i64 e0, .int .i64 r0] 28
    rw [World.size_alloc] at this
    exact this.below b1 (by simp)
  clear b1
  obtain ⟨c0, c1, c2', c3, cl⟩ := hS.facts
  go_wp2_with fail
  refine (hP.out _ hS.bel).mono ?_
  rintro x w2 ⟨v, f, rfl, hof, hif, b2⟩
  replace hS := hS.below b2
  obtain rfl : f = frontT TS := hif.unique (frontT_front _)
  have hcov := (hif.covers ⟨e0, r0⟩)
  clear hif c0 c1 c2' c3 cl b2
  obtain ⟨c0, c1, c2', c3, cl⟩ := hS.facts
  obtain ⟨av, cv, rfl, hsf⟩ := hof.sla
  clear hof
  have hSlt := hS.bel.size
  obtain ⟨nf, hnf⟩ : ∃ nf, nf = (frontT TS).length := ⟨_, rfl⟩
  have hsame := fun (W : World) (v' : Value) (hb : Below w2.heap.size w2 W) (ho : OwnT W w2.heap.size v' (frontT TS)) => (show Calls Try.prog 19 #[.slice av (frontT TS).length cv, v'] W fun e w' => e = .returned (.bool true) ∧ Below W.heap.size W w' from by
    obtain ⟨a2, k2, rfl, h2⟩ := ho.sla
    have := sameTimes_any (frontT TS) (frontT TS) av a2 cv k2 W W.heap.size (Nat.le_refl _) (hsf.imp hb hb.size (fun _ _ _ h => h.imp hb hb.size)) h2
    rw [sameTs_self] at this
    exact this)
  have hcv := fun (W : World) (hb : Below w2.heap.size w2 W) => covers_any (frontT TS) ⟨e0, r0⟩ av cv W w2.heap.size hb.size (hsf.imp hb (Nat.le_refl _) (fun _ _ _ h => h))
  rw [hcov] at hcv
  rw [← hnf] at hsame hcv ⊢
  replace hnf := Lib.hid hnf
  replace hsame := Lib.hid hsame
  replace hcv := Lib.hid hcv
  clear hcov hsf
  go_wp2_with fail
  refine (hR.out _ hS.bel).mono ?_
  rintro x w3 ⟨v3, rfl, hof3, b3⟩
  have b23 := b3
  replace hS := hS.below b3
  clear c0 c1 c2' c3 cl b3
  obtain ⟨c0, c1, c2', c3, cl⟩ := hS.facts
  dsimp only
  go_wp2_with fail
  refine (hsame.out _ _ b23 hof3).mono ?_
  rintro x w4 ⟨rfl, b4⟩
  have b24 := b23.trans (b4.mono b23.size)
  replace hS := hS.below b4
  clear c0 c1 c2' c3 cl b4 hof3 b23
  obtain ⟨c0, c1, c2', c3, cl⟩ := hS.facts
  dsimp only
  go_wp2_with fail
  refine (hG.out _ hS.bel).mono ?_
  rintro x w5 ⟨rfl, b5⟩
  have b25 := b24.trans (b5.mono b24.size)
  replace hS := hS.below b5
  clear c0 c1 c2' c3 cl b5 b24
  obtain ⟨c0, c1, c2', c3, cl⟩ := hS.facts
  dsimp only
  cases gv with
  | false =>
    go_wp2_with fail
    go_ret
    exact ⟨rfl, hS.bel⟩
  | true =>
    have hlaw2 := hlaw.out rfl
    generalize coversT TS ⟨e0, r0⟩ = cvv at hlaw2 hcv
    replace hlaw2 := Lib.hid hlaw2
    clear hlaw hG hP hR
    go_wp2_with fail
    clear c0 c1 c2' c3 cl
    go_loopw [8, 9] (fun x8 x9 wr => ∃ (i : Nat) (sv : Bool), i ≤ m ∧ x9 = .int .i64 i ∧ x8 = .bool sv ∧ Below w5.heap.size w5 wr ∧ sv = (L.take i).any cf) (fun _ x9 _ => m - (intOf x9).toNat)
    case atStart => exact ⟨0, false, Nat.zero_le _, rfl, rfl, Below.refl _ _, rfl⟩
    case round =>
      obtain ⟨i, sv, hin, rfl, rfl, hbel, hsv⟩ := hrel
      have hSr := hS.below hbel
      obtain ⟨c0, c1, c2', c3, cl⟩ := hSr.facts
      by_cases hlt : i < m
      · have hix : i < L.length := by rw [← hm.out]; exact hlt
        obtain ⟨bb, oo, rfl, hbb, _⟩ := hl.addr (by omega)
        obtain ⟨s, hs⟩ : ∃ s, L[i] = s := ⟨_, rfl⟩
        obtain ⟨g0, g1, g2, _⟩ := RStamp.at (imp_stamps hl hSr.bel) hix hs
        have hnext : (L.take (i + 1)).any cf = (sv || cf s) := by
          rw [hsv, List.take_add_one, List.getElem?_eq_getElem hix, hs, Option.toList_some, List.any_append]
          simp
        have hCs := hC.out s
        replace hnext := Lib.hid hnext
        replace hCs := Lib.hid hCs
        have hsz := hSr.bel.size
        have hsz5 := hbel.size
        have q0 := Wd.cell c0 (show w.heap.size < wr.heap.size by omega)
        have q1 := Wd.cell c1 cl
        have q2 := Wd.cell c2' cl
        have q3 := Wd.cell c3 cl
        have q4 := Wd.cell g0 (show bb < wr.heap.size by omega)
        have q5 := Wd.cell g1 (show bb < wr.heap.size by omega)
        have q6 := Wd.cell g2 (show bb < wr.heap.size by omega)
        clear c0 c1 c2' c3 cl g0 g1 g2 hs hsv
        generalize cf s = cs at *
        go_wp2_with fail
        cases sv with
        | true =>
          refine wp_region_below (by kernel_rfl) (by kernel_rfl) ?_
          repeat (go_big_quiet_step (fail))
          refine wpQuiet_nil ?_
          rintro _ ⟨u, rfl⟩
          have hbu := hbel.trans (u.h.mono hsz5)
          go_wp2_with fail
          go_roundw
          case rel => exact ⟨i + 1, true, by omega, by go_num, rfl, hbu, by rw [hnext.out]; rfl⟩
          case measure => simp [intOf]; omega
        | false =>
          refine wp_region_below (by kernel_rfl) (by kernel_rfl) ?_
          repeat (go_big_quiet_step (first | (go_at_call 11; exact Calls.quiet_below (hCs.out _ (Below.trans hSr.bel (Below.mono (Wd.h _) hsz))))))
          refine wpQuiet_nil ?_
          rintro _ ⟨u, rfl⟩
          have hbu := hbel.trans (u.h.mono hsz5)
          go_wp2_with fail
          go_roundw
          case rel => exact ⟨i + 1, cs, by omega, by go_num, rfl, hbu, by rw [hnext.out]; rfl⟩
          case measure => simp [intOf]; omega
      · obtain rfl : i = m := by omega
        rw [hm.out, List.take_length, hlaw2.out] at hsv
        subst hsv
        go_wp2_with fail
        refine (hcv.out _ (b25.trans (hbel.mono b25.size))).mono ?_
        rintro x w6 ⟨rfl, b6⟩
        have hbb : (sv == sv) = true := by simp
        go_wp2_with fail
        go_ret
        exact ⟨by simp, hSr.bel.trans (b6.mono hSr.bel.size)⟩

theorem rfronts_row {w : World} (cs : Array Value) (x : TGraph) (hx : RGraph w.heap.size w (Value.cells (.agg cs)).toList x) (a1 : Option Addr) (len1 cap1 : Nat) (x1 : List TStamp)
    (h1 : RSl w.heap.size 3 (RStamp w.heap.size) w (Value.cells (.slice a1 len1 cap1)).toList x1) (z1 : cap1 * 24 ≤ reachBytes) (c2 : Array Value) (x2 : TStamp) (h2 : RStamp w.heap.size w (Value.cells (.agg c2)).toList x2) :
    Calls Try.prog 7 #[.agg cs, .slice a1 len1 cap1, .agg c2] w fun e w' => e = .returned (.bool true) ∧ Below w.heap.size w w' := by
  obtain ⟨ao, cap, rfl, hs⟩ := graph_agg hx
  obtain ⟨rfl, _⟩ := stamp_agg h2
  obtain ⟨a, k, he, hsl⟩ := h1
  obtain ⟨rfl, rfl, rfl⟩ : a1 = a ∧ len1 = x1.length ∧ cap1 = k := by simpa [Value.cells] using he
  exact rfronts_walk x.fOps cap ao x1 _ _ _ _ _ w hs hsl (by have := hsl.1; have hr : reachBytes = 140737488351232 := rfl; omega)
end Go.Proofs.Ytbiakolkcikeiaa
