/- Graph: the walk of GraphOrders. -/
import Derived.Test.YtmoengfpbgpnfaaGs
import Derived.Test.YtmoengfpbgpnfaaGlaw1
import Derived.Test.YtmoengfpbgpnfaaBaseW
namespace Go.Proofs.Ytmoengfpbgpnfaa
open Go.RowKit Go.Shelf
attribute [local go_sem] Oper.semAt_some
set_option linter.unusedVariables false

/-- The state of GraphOrders. -/
structure OSt (w : World) (hb rb n cap : Nat) (ao : Option Addr) (rs : List Nat) (ops : List TOp) (ab a : Nat) (wr : World) : Prop where
  hd : Hd [(w.heap.size, .slice ao n cap, 24), (w.heap.size + 1, .bool false, 4), (rb, .slice (some ⟨hb, 0, none⟩) n n, 40), (ab, .int .i64 a, 3)] wr
  part : RPart wr (w.heap.size + 1) hb n 0 rs (rch ops)
  bel : Below w.heap.size w wr
namespace OSt
variable {w : World} {hb rb n cap : Nat} {ao : Option Addr} {rs : List Nat} {ops : List TOp} {ab a : Nat} {wr wr' : World}
theorem keep (h : OSt w hb rb n cap ao rs ops ab a wr) (k : Below wr.heap.size wr wr') : OSt w hb rb n cap ao rs ops ab a wr' := ⟨h.hd.below k (Nat.le_refl _), h.part.below k (Nat.le_refl _), h.bel.trans (k.mono h.bel.size)⟩
theorem own {β : Type} {B : Nat} (hB : w.heap.size ≤ B) : OwnFrom B (fun (_ : β) W => OSt w hb rb n cap ao rs ops ab a W) := fun s X Y row hs hg hr =>
  ⟨hs.hd.grown hg (fun r e => (hr r e).2), RPart.own (β := β) B _ _ _ _ _ _ s X Y row hs.part hg hr, ownFrom_below (β := β) (Nat.le_refl _) hB s X Y row hs.bel hg hr⟩
theorem next (h : OSt w hb rb n cap ao rs ops ab a wr) (a' : Nat) : OSt w hb rb n cap ao rs ops wr.heap.size a' (wr.alloc (.cells #[.int .i64 a'] 3)) :=
  ⟨(h.hd.alloc (.int .i64 a') 3).sub (by simp), h.part.chg ((Chg.refl (fun _ => False) wr).alloc _) (fun _ _ _ _ h => h), h.bel.alloc h.bel.size _⟩
theorem rc (h : OSt w hb rb n cap ao rs ops ab a wr) {x y : Nat} (hx : x < n) (hy : y < n) : ∃ r, wr.cell? ⟨hb, x, none⟩ = some (.slice (some ⟨r, 0, none⟩) n n) ∧ wr.cell? ⟨r, y, none⟩ = some (.bool (rch ops x y)) := by
  obtain ⟨r, h1, h2⟩ := h.part.hcell (Nat.zero_le x) hx
  exact ⟨r, h2, h.part.rcell (Nat.zero_le x) h1 hy⟩
end OSt

set_option maxRecDepth 100000 in
set_option maxHeartbeats 4000000 in
theorem orders_ok (ops : List TOp) (cap : Nat) (ao : Option Addr) (w : World) (hx : SlA w.heap.size 7 (ROp w.heap.size) w ao cap ops) (hok : (gcheck ops).2 = 0) :
    Calls Try.prog 5 #[.agg #[.slice ao ops.length cap]] w fun e w' => e = .returned (.bool true) ∧ Below w.heap.size w w' := by
  have hG := okG_of_check hok
  have hg := fun W hb => gcheck_all ops cap ao W w.heap.size (Below.size hb) (imp_ops hx hb)
  rw [hok] at hg
  have hR := fun W hb => reaches_ok ops cap ao W w.heap.size (Below.size hb) (imp_ops hx hb) hok
  have hpos := hG.pos
  have hmost := hG.most
  obtain ⟨n, hn⟩ : ∃ n, n = ops.length := ⟨_, rfl⟩
  rw [← hn] at hg hpos hmost hR ⊢
  replace hn := Lib.hid hn
  replace hok := Lib.hid hok
  replace hG := Lib.hid hG
  refine calls_of_marks Try.func5 rfl ?_
  simp only [Try.ntmps5, List.size_toArray, List.length_cons, List.length_nil, Nat.reduceAdd, Nat.reduceSub, Array.replicate_succ, Array.replicate_zero, List.push_toArray, List.append_toArray, List.nil_append, List.cons_append]
  go_wp2_with fail
  refine (known_any _).mono ?_
  rintro e w1 ⟨rfl, hb1⟩
  have hd1 : Hd [(w.heap.size, .slice ao n cap, 24), (w.heap.size + 1, .bool false, 4)] w1 := by
    have := ((Hd.nil w).alloc (.slice ao n cap) 24).alloc (.bool false) 4
    rw [World.size_alloc] at this
    exact (this.below hb1 (Nat.le_refl _)).sub (by simp)
  have hbel : Below w.heap.size w w1 := (by repeat (first | exact Below.refl _ _ | assumption | refine below_drewN ?_ _ | refine Below.drew ?_ | (refine Below.setCell ?_ (by first | omega | (simp; omega) | simp) _) | (refine Below.alloc ?_ (by first | omega | (simp; omega) | simp) _) | (refine Below.trans ?_ (Below.mono (by assumption) (by first | omega | (simp; omega) | simp)))))
  clear hb1
  have cg := hd1.cell (b := w.heap.size) (v := .slice ao n cap) (T := 24) (by simp)
  go_wp2_with fail
  refine (hR _ ((by repeat (first | exact Below.refl _ _ | assumption | refine below_drewN ?_ _ | refine Below.drew ?_ | (refine Below.setCell ?_ (by first | omega | (simp; omega) | simp) _) | (refine Below.alloc ?_ (by first | omega | (simp; omega) | simp) _) | (refine Below.trans ?_ (Below.mono (by assumption) (by first | omega | (simp; omega) | simp))))))).mono ?_
  rintro e w2 ⟨v, rfl, ⟨hb, rs, rfl, hP⟩, hb2⟩
  have hd2 := hd1.below hb2 (Nat.le_refl _)
  have hbel2 := hbel.trans (hb2.mono hbel.size)
  replace hP := hP.base (base' := w.heap.size + 1) (by have := hd1.lt (b := w.heap.size + 1) (v := .bool false) (T := 4) (by simp); omega)
  clear hb2 hd1 hbel cg hR w1
  dsimp only
  go_wp2_with fail
  have hL : OSt w hb w2.heap.size n cap ao rs ops (w2.heap.size + 1) 0 ((w2.alloc (.cells #[.slice (some ⟨hb, 0, none⟩) n n] 40)).alloc (.cells #[.int .i64 0] 3)) := by
    have := (hd2.alloc (.slice (some ⟨hb, 0, none⟩) n n) 40).alloc (.int .i64 0) 3
    rw [World.size_alloc] at this
    exact ⟨this.sub (by simp), hP.chg (((Chg.refl (fun _ => False) w2).alloc _).alloc _) (fun _ _ _ _ h => h), (hbel2.alloc hbel2.size _).alloc (by have := hbel2.size; simp; omega) _⟩
  generalize (w2.alloc (.cells #[.slice (some ⟨hb, 0, none⟩) n n] 40)).alloc (.cells #[.int .i64 0] 3) = w3 at hL ⊢
  generalize w2.heap.size = rb at hL ⊢
  clear hd2 hbel2 hP w2
  refine wp_loopN [4] 5 105 n (fun k us ds wr => ∃ (ab a : Nat), us = [.pointer (some ⟨ab, 0, none⟩)] ∧ k = n - a ∧ a ≤ n ∧ OSt w hb rb n cap ao rs ops ab a wr ∧ Marks w.heap.size ds wr) ⟨_, 0, rfl, by omega, Nat.zero_le _, hL, trivial⟩ ?round
  case round =>
    clear hL
    rintro f k us ds wr ⟨ab, a, rfl, rfl, ha, hL, hM⟩
    simp only [setAll, fillL, List.set_cons_succ, List.set_cons_zero, Nat.reduceAdd, Nat.zero_add]
    have cr := hL.hd.cell (b := rb) (v := .slice (some ⟨hb, 0, none⟩) n n) (T := 40) (by simp)
    have ca := hL.hd.cell (b := ab) (v := .int .i64 a) (T := 3) (by simp)
    have cg := hL.hd.cell (b := w.heap.size) (v := .slice ao n cap) (T := 24) (by simp)
    by_cases han : a < n
    · obtain ⟨ra, ia, ha1⟩ := hL.part.hcell (Nat.zero_le a) han
      have hra := fun y (hy : y < n) => hL.part.rcell (Nat.zero_le a) ia hy
      replace hra := Lib.hid hra
      clear ia
      go_wp2_with fail
      go_loop [5] (fun b => ∃ k : Nat, k ≤ n ∧ b = .int .i64 k) (fun b => n - (intOf b).toNat)
      case atStart => exact ⟨0, Nat.zero_le _, rfl⟩
      case round =>
        obtain ⟨b, hbn, rfl⟩ := hrel
        by_cases hb2 : b < n
        · obtain ⟨v1, hv1⟩ : ∃ v, v = rch ops a b := ⟨_, rfl⟩
          have c1 := hra.out b hb2
          rw [← hv1] at c1
          obtain ⟨rb2, ib, hb1⟩ := hL.part.hcell (Nat.zero_le b) hb2
          have hrb := fun y (hy : y < n) => hL.part.rcell (Nat.zero_le b) ib hy
          replace hrb := Lib.hid hrb
          clear ib
          have hf1 : (v1 = true → a ≤ b) ∧ (a = b → v1 = true) := ⟨fun h => (rch_iff.1 (hv1.symm.trans h)).le hG.out, fun h => by rw [hv1]; exact rch_iff.2 (by rw [h]; exact .refl _)⟩
          have hd1 : v1 = true → decide (b < a) = false := fun h => by have := hf1.1 h; simp; omega
          have hd2 : v1 = false → ((a : Int) == (b : Int)) = false := fun h => by
            have : a ≠ b := fun e => by rw [hf1.2 e] at h; cases h
            simp; omega
          have htr : ∀ c, v1 = true → rch ops b c = true → rch ops a c = true := fun c h1 h2 => rch_iff.2 ((rch_iff.1 (hv1.symm.trans h1)).trans (rch_iff.1 h2))
          replace htr := Lib.hid htr
          clear hf1 hv1
          cases v1 with
          | false =>
            replace hd2 := hd2 rfl
            clear hd1
            go_wp2_with fail
            go_loop [6] (fun b => ∃ k : Nat, k ≤ n ∧ b = .int .i64 k) (fun b => n - (intOf b).toNat)
            case atStart => exact ⟨0, Nat.zero_le _, rfl⟩
            case round =>
              obtain ⟨c, hcn, rfl⟩ := hrel
              by_cases hc2 : c < n
              · go_wp2_with fail
                go_round
                case rel => exact ⟨c + 1, by omega, by go_num⟩
                case measure => simp [intOf]; omega
              · go_wp2_with fail
                go_round
                case rel => exact ⟨b + 1, by omega, by go_num⟩
                case measure => simp [intOf]; omega
          | true =>
            replace hd1 := hd1 rfl
            clear hd2
            by_cases hab : a = b
            all_goals (first | have hab2 : ((a : Int) == (b : Int)) = true := by (simp; omega) | have hab2 : ((a : Int) == (b : Int)) = false := by (simp; omega))
            all_goals clear hab
            all_goals go_wp2_with fail
            all_goals
              go_loop [6] (fun b => ∃ k : Nat, k ≤ n ∧ b = .int .i64 k) (fun b => n - (intOf b).toNat)
              case atStart => exact ⟨0, Nat.zero_le _, rfl⟩
              case round =>
                obtain ⟨c, hcn, rfl⟩ := hrel
                by_cases hc2 : c < n
                · obtain ⟨v2, hv2⟩ : ∃ v, v = rch ops b c := ⟨_, rfl⟩
                  have c2 := hrb.out c hc2
                  rw [← hv2] at c2
                  have c3 : v2 = true → wr.cell? ⟨ra, c, none⟩ = some (.bool true) := fun h => by rw [hra.out c hc2, htr.out c (by trivial) (hv2.symm.trans h)]
                  clear hv2
                  cases v2 with
                  | false =>
                    clear c3
                    go_wp2_with fail
                    go_round
                    case rel => exact ⟨c + 1, by omega, by go_num⟩
                    case measure => simp [intOf]; omega
                  | true =>
                    replace c3 := c3 rfl
                    go_wp2_with fail
                    go_round
                    case rel => exact ⟨c + 1, by omega, by go_num⟩
                    case measure => simp [intOf]; omega
                · go_wp2_with fail
                  go_round
                  case rel => exact ⟨b + 1, by omega, by go_num⟩
                  case measure => simp [intOf]; omega
        · clear hra ha1
          go_wp2_with fail
          refine (callsIn_wide.1 (uses_in Fence.wide 8 trivial rfl ao n cap a wr)).mono ?_
          rintro e w7 ⟨rfl, hw7⟩
          clear cg ca cr
          have hbe : Below wr.heap.size wr w7 := by rw [hw7]; exact ((Below.refl _ _).alloc (Nat.le_refl _) _).alloc (by simp) _
          have hL7 := hL.keep hbe
          have hc7 : Chg (fun _ => False) wr w7 := by rw [hw7]; exact ((Chg.refl _ _).alloc _).alloc _
          have hM7 := hM.chg hc7 (fun _ h => h.elim)
          have hu := ((Hd.nil wr).alloc (.slice ao n cap) 24).alloc (.int .i64 a) 3
          rw [World.size_alloc, ← hw7] at hu
          have hub3 := hL.bel.size
          have hul := hbe.size
          generalize wr.heap.size = ub at hu hub3 ⊢
          clear hw7 hL hM hbe hc7
          go_upto_region 100 with fail
          have c1 := hu.cell (b := ub) (v := .slice ao n cap) (T := 24) (by simp)
          have c2 := hu.cell (b := ub + 1) (v := .int .i64 a) (T := 3) (by simp)
          have hu1l : ub < w7.heap.size := World.lt_of_cell c1
          have hu2l : ub + 1 < w7.heap.size := World.lt_of_cell c2
          rw [hn.out] at c1
          have hsq := uses_stops Fence.wide (8 - 1) trivial rfl (by omega) ub (ub + 1) w.heap.size (fun i => i < w.heap.size ∨ i = ub + 1) ops ao cap (a : Int) w7
            (fun i hi => .inl hi) (.inr rfl) (fun i hi => by have := hL7.bel.size; rcases hi with hi | rfl <;> omega) hu1l (imp_ops hx hL7.bel) c1 c2
          have hMl := hM7.lt
          refine (wpIn_wide (n := 8)).1 ?_
          refine wpIn_rangeFunc_ownG (α := UseOf ops a) rfl (by omega) (gf := 21) (lb := #[.pointer (some ⟨ub, 0, none⟩), .pointer (some ⟨ub + 1, 0, none⟩)]) rfl trivial (enters_of Try.func21 (by kernel_rfl) rfl)
            hsq KeepS.trans (fun W l o o' h1 h2 h3 h4 => keepS_put o' (by have := hL7.bel.size; rintro (h | h) <;> omega)) (Below.refl _ _) (fun _ => rfl)
            (fun pre W => OSt w hb rb n cap ao rs ops ab a W ∧ Marks w.heap.size ds W)
            (fun _ _ _ => False) (OwnFrom.and (OSt.own hL7.bel.size) (ownFrom_marks hMl)) (fun _ _ _ _ _ h _ _ => h) ⟨hL7, hM7⟩ ?a1 ?assign ?body ?done ?stop
          case assign =>
            intro l x W K hK
            gi_wp2
            exact hK
          case stop =>
            rintro D c pre W _ _ h _
            exact h.elim
          case body =>
            rintro l pre x W ⟨hL8, hM8⟩ _
            obtain ⟨⟨b, kx⟩, hxu⟩ := x
            have hbn := uses_lt hG.out hxu
            rw [← hn.out] at hbn
            have hrt : rch ops a b = true := rch_iff.2 (.step (edge_uses.2 ⟨_, hxu, rfl⟩) (.refl _))
            dsimp only at hbn ⊢
            have cr := hL8.hd.cell (b := rb) (v := .slice (some ⟨hb, 0, none⟩) n n) (T := 40) (by simp)
            have ca := hL8.hd.cell (b := ab) (v := .int .i64 a) (T := 3) (by simp)
            obtain ⟨ra, ha1, ha2⟩ := hL8.rc han hbn.2
            rw [hrt] at ha2
            clear hrt
            have hbn2 := hbn.2
            gi_wp2
            exact ⟨KeepsFrom.refl _ _, KeepS.refl _ _, hL8, hM8⟩
          case done =>
            rintro D ys W hD hys ⟨hL8, hM8⟩ hK
            have hM9 : Marks w.heap.size ({ target := .collected D, args := #[] } :: ds) W := ⟨D, rfl, by have := hL7.bel.size; omega, hK, fun e he => by
              obtain ⟨D', rfl, h1⟩ := hMl e he
              intro e
              injection e with e1 e2
              injection e1 with e1
              omega, hM8⟩
            clear hL7 hM7 hMl hsq c1 c2 hys hu1l hu2l hub3 hu hul hM8 hK hD w7
            have ca := hL8.hd.cell (b := ab) (v := .int .i64 a) (T := 3) (by simp)
            dsimp only
            go_wp2_with fail
            refine RoundEnd.intro [.pointer (some ⟨W.heap.size, 0, none⟩)] (n - (a + 1)) (by kernel_rfl) (by omega) ⟨_, a + 1, rfl, rfl, by omega, ?_, hM9.chg ((Chg.refl (fun _ => False) W).alloc _) (fun _ h => h.elim)⟩
            have := hL8.next (a + 1)
            rw [show (((a + 1 : Nat)) : Int) = (a : Int) + 1 by omega] at this
            exact this
    · obtain rfl : a = n := by omega
      have hres := hL.hd.blk (b := w.heap.size + 1) (v := .bool false) (T := 4) (by simp)
      have hposd : decide (0 < a) = true := decide_eq_true (by omega)
      go_wp2_with fail
      refine (hg _ hL.bel).mono ?_
      rintro e w4 ⟨rfl, hb4⟩
      have hL4 := hL.keep hb4
      have hM4 := hM.chg (Chg.of_below hb4) (fun k hk x => by
        intro h
        have := (Array.getElem?_eq_some_iff.1 h).1
        omega)
      have cr := hL4.hd.cell (b := rb) (v := .slice (some ⟨hb, 0, none⟩) a a) (T := 40) (by simp)
      have hres := hL4.hd.blk (b := w.heap.size + 1) (v := .bool false) (T := 4) (by simp)
      have ce := hres.cellAt (i := 0) (v := .bool false) rfl
      have cf := hres.frozen 0
      clear ca cg hg
      go_wp2_with fail
      have hb5 : Below w.heap.size w (w4.setCell ⟨w.heap.size + 1, 0, none⟩ (.bool true)) := hL4.bel.setCell (by simp) _
      have hM5 := hM4.chg ((Chg.refl (fun k => k = w.heap.size + 1) w4).setCell ⟨w.heap.size + 1, 0, none⟩ (.bool true) (fun _ => rfl)) (fun k e x => by rw [e]; exact hres.noDef x)
      have hr5 := (hres.set 0 (.bool true)).cellAt (i := 0) (v := .bool true) rfl
      refine leavesM_marks ds _ hM5 hb5.size (fun w' hs => ?_)
      have hr6 := hs.cell hr5
      exact ⟨.bool true, by simp [results, Try.results5, go_sem, hr6], rfl, hb5.trans hs.below⟩

set_option maxRecDepth 100000 in
set_option maxHeartbeats 4000000 in
theorem orders_no (ops : List TOp) (cap : Nat) (ao : Option Addr) (w : World) (hx : SlA w.heap.size 7 (ROp w.heap.size) w ao cap ops) (hok : (gcheck ops).2 ≠ 0) :
    Calls Try.prog 5 #[.agg #[.slice ao ops.length cap]] w fun e w' => e = .returned (.bool true) ∧ Below w.heap.size w w' := by
  have hg := fun W hb => gcheck_all ops cap ao W w.heap.size (Below.size hb) (imp_ops hx hb)
  have hR := fun W hb => reaches_no ops cap ao W w.heap.size (Below.size hb) (imp_ops hx hb) hok
  obtain ⟨er, her⟩ : ∃ er, er = (gcheck ops).2 := ⟨_, rfl⟩
  rw [← her] at hok hg
  have hne : ((er : Int) == 0) = false := by simpa using hok
  obtain ⟨n, hn⟩ : ∃ n, n = ops.length := ⟨_, rfl⟩
  rw [← hn] at hg hR ⊢
  replace hn := Lib.hid hn
  replace her := Lib.hid her
  clear hok
  refine calls_of_marks Try.func5 rfl ?_
  simp only [Try.ntmps5, List.size_toArray, List.length_cons, List.length_nil, Nat.reduceAdd, Nat.reduceSub, Array.replicate_succ, Array.replicate_zero, List.push_toArray, List.append_toArray, List.nil_append, List.cons_append]
  go_wp2_with fail
  refine (known_any _).mono ?_
  rintro e w1 ⟨rfl, hb1⟩
  have hd1 : Hd [(w.heap.size, .slice ao n cap, 24), (w.heap.size + 1, .bool false, 4)] w1 := by
    have := ((Hd.nil w).alloc (.slice ao n cap) 24).alloc (.bool false) 4
    rw [World.size_alloc] at this
    exact (this.below hb1 (Nat.le_refl _)).sub (by simp)
  have hbel : Below w.heap.size w w1 := (by repeat (first | exact Below.refl _ _ | assumption | refine below_drewN ?_ _ | refine Below.drew ?_ | (refine Below.setCell ?_ (by first | omega | (simp; omega) | simp) _) | (refine Below.alloc ?_ (by first | omega | (simp; omega) | simp) _) | (refine Below.trans ?_ (Below.mono (by assumption) (by first | omega | (simp; omega) | simp)))))
  clear hb1
  have cg := hd1.cell (b := w.heap.size) (v := .slice ao n cap) (T := 24) (by simp)
  go_wp2_with fail
  refine (hR _ ((by repeat (first | exact Below.refl _ _ | assumption | refine below_drewN ?_ _ | refine Below.drew ?_ | (refine Below.setCell ?_ (by first | omega | (simp; omega) | simp) _) | (refine Below.alloc ?_ (by first | omega | (simp; omega) | simp) _) | (refine Below.trans ?_ (Below.mono (by assumption) (by first | omega | (simp; omega) | simp))))))).mono ?_
  rintro e w2 ⟨rfl, hb2⟩
  have hd2 := hd1.below hb2 (Nat.le_refl _)
  have hbel2 := hbel.trans (hb2.mono hbel.size)
  clear hb2 hd1 hbel cg hR w1
  have cg := hd2.cell (b := w.heap.size) (v := .slice ao n cap) (T := 24) (by simp)
  dsimp only
  go_wp2_with fail
  have hd3 := (hd2.alloc (.slice none 0 0) 40).alloc (.int .i64 0) 3
  have hbel3 : Below w.heap.size w ((w2.alloc (.cells #[.slice none 0 0] 40)).alloc (.cells #[.int .i64 0] 3)) := (hbel2.alloc hbel2.size _).alloc (by have := hbel2.size; simp; omega) _
  rw [World.size_alloc] at hd3
  generalize (w2.alloc (.cells #[.slice none 0 0] 40)).alloc (.cells #[.int .i64 0] 3) = w3 at hd3 hbel3 ⊢
  generalize w2.heap.size = rb at hd3 ⊢
  clear hd2 hbel2 cg w2
  have cr := hd3.cell (b := rb) (v := .slice none 0 0) (T := 40) (by simp)
  have ca := hd3.cell (b := rb + 1) (v := .int .i64 0) (T := 3) (by simp)
  have cg := hd3.cell (b := w.heap.size) (v := .slice ao n cap) (T := 24) (by simp)
  refine wp_loopN [4] 5 105 0 (fun k us ds wr => us = [.pointer (some ⟨rb + 1, 0, none⟩)] ∧ ds = [] ∧ wr = w3) ⟨rfl, rfl, rfl⟩ ?round
  case round =>
    rintro f k us ds wr ⟨rfl, rfl, hwr⟩
    subst hwr
    simp only [setAll, fillL, List.set_cons_succ, List.set_cons_zero, Nat.reduceAdd, Nat.zero_add]
    go_wp2_with fail
    refine (hg _ hbel3).mono ?_
    rintro e w4 ⟨rfl, hb4⟩
    have hd4 := hd3.below hb4 (Nat.le_refl _)
    have hres := hd4.blk (b := w.heap.size + 1) (v := .bool false) (T := 4) (by simp)
    have hbel4 := hbel3.trans (hb4.mono hbel3.size)
    clear cr ca cg hg hd3 hb4
    have cr := hd4.cell (b := rb) (v := .slice none 0 0) (T := 40) (by simp)
    have ce := hres.cellAt (i := 0) (v := .bool false) rfl
    have cf := hres.frozen 0
    go_wp2_with fail
    have hb5 : Below w.heap.size w (w4.setCell ⟨w.heap.size + 1, 0, none⟩ (.bool true)) := hbel4.setCell (by simp) _
    have hr5 := (hres.set 0 (.bool true)).cellAt (i := 0) (v := .bool true) rfl
    refine leavesM_marks [] _ trivial hb5.size (fun w' hs => ?_)
    have hr6 := hs.cell hr5
    exact ⟨.bool true, by simp [results, Try.results5, go_sem, hr6], rfl, hb5.trans hs.below⟩

theorem orders_row (cs : Array Value) (x : TGraph) {w : World} (hx : RGraph w.heap.size w (Value.cells (.agg cs)).toList x) :
    Calls Try.prog 5 #[.agg cs] w fun e w' => e = .returned (.bool true) ∧ Below w.heap.size w w' := by
  obtain ⟨ao, cap, rfl, hs⟩ := graph_agg hx
  by_cases h : (gcheck x.fOps).2 = 0
  · exact orders_ok x.fOps cap ao w hs h
  · exact orders_no x.fOps cap ao w hs h
end Go.Proofs.Ytmoengfpbgpnfaa
