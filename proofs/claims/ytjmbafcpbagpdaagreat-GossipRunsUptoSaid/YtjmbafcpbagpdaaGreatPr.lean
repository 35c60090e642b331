/- Progress: the keys of the counts, collected and sorted. -/
import Derived.Test.YtjmbafcpbagpdaaGreatPq
import Derived.Test.YtjmbafcpbagpdaaGreatL6
import Derived.RangeFuncNested
import Derived.RangeFuncBound
import Derived.RangeFuncCalls
import Derived.RangeFuncLeaves
import Derived.RangeFuncFrom
import Derived.Shelf.Abstract
import Derived.Shelf.RegionOpen
import Derived.WalkKit
import Derived.OwnWalkIn
import Derived.TacticsInMore
import Derived.LoopNIn
import Derived.LoopIn
namespace Go.Proofs.YtjmbafcpbagpdaaGreat
open Go.RowKit Go.Shelf Go.Maps
attribute [local go_sem] Oper.semAt_some
set_option linter.unusedVariables false
set_option linter.unusedSimpArgs false

theorem keysG_any (mb : Nat) (w : World) : Calls Tryz.prog 46 #[.map (some mb)] w fun e w' => e = .returned (.func (.func 65) #[] #[.pointer (some ⟨w.heap.size, 0, none⟩)]) ∧ w' = w.alloc (.cells #[.map (some mb)] 103) := by
  go_enter Tryz.func46, Tryz.ntmps46
  go_wp2
  go_ret
  exact ⟨rfl, rfl⟩

set_option maxRecDepth 100000 in
set_option maxHeartbeats 2000000 in
theorem keys_stops (n : Nat) (hn : 1 ≤ n) (bx mb : Nat) (es : List (TStamp × Value)) (w : World) (hbx : w.cell? ⟨bx, 0, none⟩ = some (.map (some mb))) (hM : MapL Tryz.prog 59 klS wfS w mb es) :
    SeqStopsK Fence.wide n Tryz.prog 65 #[.pointer (some ⟨bx, 0, none⟩)] (fun x : TStamp => #[mkS x]) KeepsWalks (fun ys => ys.Perm (es.map Prod.fst)) (fun _ => True) es.length w := fun l J Jx W hW hJ hJx hY h0 => by
  have hbx' := (hW.cell (World.lt_of_cell hbx)).trans hbx
  have hM' := hM.below hW hM.lt
  obtain ⟨n0, hn0⟩ : ∃ n0, n0 = W.heap.size := ⟨_, rfl⟩
  rw [← hn0] at hJ hJx
  replace hJ := Lib.hid hJ
  replace hJx := Lib.hid hJx
  replace hY := Lib.hid hY
  replace h0 := Lib.hid h0
  clear hbx hM hW
  refine callsIn_of_wp Tryz.func65 rfl trivial ?_ rfl
  simp only [Tryz.ntmps65, List.size_toArray, List.length_cons, List.length_nil, Nat.reduceAdd, Nat.reduceSub, Array.replicate_succ, Array.replicate_zero, List.push_toArray, List.append_toArray, List.nil_append, List.cons_append]
  refine wpIn_wide.2 ?_
  go_wp2_with (at_range; refine wpList_rangeL rfl _ _ rfl keyS hM' Tryz.underlying103 rfl ?next)
  case next =>
  intro w1 hr hb1 hs1
  have hJ1 : J [] w1 := hJ.out.below h0.out hb1
  obtain ⟨rb, hrb⟩ : ∃ rb, rb = W.heap.size := ⟨_, rfl⟩
  rw [← hrb] at hr hs1 ⊢
  have hrn : n0 ≤ rb := by omega
  have hmr : mb < rb := by rw [hrb]; exact hM'.lt
  have hrb1 : rb < w1.heap.size := by omega
  replace hrb := Lib.hid hrb
  replace hJ1 := Lib.hid hJ1
  clear hs1 hbx' hM' hb1 h0
  go_wp2_with fail
  go_loopw [] (fun wr => ∃ (rest : List (TStamp × Value)) (pre : List TStamp), RangeL Tryz.prog 59 klS wfS wr mb rb es rest ∧ Hid (J pre wr) ∧ (es.map Prod.fst).Perm (pre ++ rest.map Prod.fst) ∧ rb < wr.heap.size) (fun wr => wr.rangeLeft mb rb)
  case atStart => exact ⟨es, [], hr, hJ1, .refl _, hrb1⟩
  case round =>
    clear hr hJ1 hrb1
    obtain ⟨rest, pre, hr, hJs, hperm, hlt⟩ := hrel
    go_wp2_with (at_next; refine wpList_nextL rfl _ rfl keyS hr rfl ?fin ?more)
    case fin =>
      rintro rfl
      go_wp2_with fail
      go_end0
      rw [List.map_nil, List.append_nil] at hperm
      exact ⟨⟨_, rfl⟩, .inl ⟨pre, hperm.symm, hJs.out⟩⟩
    case more =>
      intro x v w2 hm hx hr2 hlt2 hch hsz hen
      have hJ2 := hJ.out.turn hJs.out hch hrn hr.walk
      have hpm : (es.map Prod.fst).Perm (pre ++ [x] ++ (delE rest x).map Prod.fst) := by
        have h1 := (RangeL.del_perm hr.rnodup hm).map Prod.fst
        rw [List.map_cons] at h1
        refine hperm.trans ?_
        rw [List.append_assoc]
        exact (h1.append_left pre)
      have hpl : pre.length < es.length := by
        have := hpm.length_eq
        simp at this
        omega
      have hl2 : rb < w2.heap.size := by omega
      replace hpm := Lib.hid hpm
      replace hJ2 := Lib.hid hJ2
      clear hr hm hlt hch hsz hJs hperm
      obtain ⟨xl, ⟨xe, xr⟩⟩ := x
      unfold mkS at hen
      dsimp only at hen
      go_upto_region 3 with fail
      refine Code.wp_world ?_
      intro w3 hw3
      have hb3 : Below w2.heap.size w2 w3 := by rw [hw3]; exact (Below.refl _ _).alloc (Nat.le_refl _) _
      have hB3 : Blk w3 w2.heap.size #[.int .i64 xl, .int .i64 xe, .int .i64 xr] 59 := by rw [hw3]; exact Blk.new _ _ _
      have hJ3 := hJ.out.below hJ2.out hb3
      obtain ⟨hr3, hlf3⟩ := hr2.chg (S := fun _ => False) ((Chg.of_below hb3).mono (fun k hk h => absurd h (by omega))) (fun h => h) (fun h => h)
      have hl3 : rb < w3.heap.size := Nat.lt_of_lt_of_le hl2 hb3.size
      obtain ⟨fn, tmps, assign, body, hy, hR⟩ := hY.out pre ⟨xl, ⟨xe, xr⟩⟩ w3 hJ3 hpl
      unfold mkS at hy
      dsimp only at hy
      obtain ⟨z, hz⟩ : ∃ z, z = w2.heap.size := ⟨_, rfl⟩
      rw [← hz] at hB3 ⊢
      have c0 := hB3.cellAt (i := 0) (v := .int .i64 xl) rfl
      have c1 := hB3.cellAt (i := 1) (v := .int .i64 xe) rfl
      have c2 := hB3.cellAt (i := 2) (v := .int .i64 xr) rfl
      clear hw3 hb3 hB3 hJ2 hr2 hen hz
      refine (wpIn_wide (n := n)).1 ?_
      gi_wp2
      refine hR.mono ?_
      rintro e W' (⟨rfl, hJ', hk⟩ | ⟨rfl, hJx'⟩)
      · obtain ⟨hr4, hlf4⟩ := hr3.walks hk
        have hl4 : rb < W'.heap.size := Nat.lt_of_lt_of_le hl3 hk.size
        replace hJ' := Lib.hid hJ'
        gi_wp2
        go_wp2_with fail
        go_roundw
        case rel => exact ⟨_, pre ++ [⟨xl, ⟨xe, xr⟩⟩], hr4, hJ', hpm.out, hl4⟩
        case measure => rw [hlf4, hlf3]; exact hlt2
      · gi_wp2
        go_wp2_with fail
        refine bodyPost_ret (results_none rfl _ _ _) rfl ?_
        exact ⟨⟨_, rfl⟩, .inr ⟨_, trivial, hJx'⟩⟩

set_option maxRecDepth 100000 in
set_option maxHeartbeats 2000000 in
theorem appendKeys_any (bx mb : Nat) (es : List (TStamp × Value)) (w : World) (hbx : w.cell? ⟨bx, 0, none⟩ = some (.map (some mb))) (hM : MapL Tryz.prog 59 klS wfS w mb es) (hz : (es.length + 1) * 24 ≤ 140737488355328) :
    Calls Tryz.prog 77 #[.slice none 0 0, .func (.func 65) #[] #[.pointer (some ⟨bx, 0, none⟩)]] w fun e w' =>
      ∃ v ys, e = .returned v ∧ OwnL encS w' w.heap.size 59 3 v ys ∧ ys.Perm (es.map Prod.fst) ∧ Below w.heap.size w w' := by
  obtain ⟨jS, hiS, hS0, hS1, hS2⟩ := info_parts infoS
  refine calls_of_marks Tryz.func77 rfl ?_
  simp only [Tryz.ntmps77, List.size_toArray, List.length_cons, List.length_nil, Nat.reduceAdd, Nat.reduceSub, Array.replicate_succ, Array.replicate_zero, List.push_toArray, List.append_toArray, List.nil_append, List.cons_append]
  go_upto_region 1 with fail
  refine Code.wp_world ?_
  intro w1 hw1
  have hb1 : Below w.heap.size w w1 := by rw [hw1]; exact (Below.refl _ _).alloc (Nat.le_refl _) _
  have hB1 : Blk w1 w.heap.size #[.slice none 0 0] 29 := by rw [hw1]; exact Blk.new _ _ _
  have hbx1 := (hb1.cell (World.lt_of_cell hbx)).trans hbx
  have hM1 := hM.below hb1 hM.lt
  have hz1 : w.heap.size < w1.heap.size := hB1.lt
  clear hw1 hbx hM
  go_wp2_with fail
  refine (wpIn_wide (n := 8)).1 ?_
  refine wpIn_rangeFunc_ownH (α := TStamp) rfl (by omega) (gf := 65) (lb := #[.pointer (some ⟨bx, 0, none⟩)]) rfl trivial (enters_of Tryz.func65 (by kernel_rfl) rfl)
    (keys_stops (8 - 1) (by omega) bx mb es w1 hbx1 hM1) walksK_t walksK_b (Below.refl _ _) (fun _ => rfl)
    (fun pre W => ∃ v, Blk W w.heap.size #[v] 29 ∧ OwnL encS W w1.heap.size 59 3 v pre ∧ Below w.heap.size w W ∧ w1.heap.size ≤ W.heap.size)
    (fun _ _ _ => False) ?hI (fun _ _ _ _ _ h _ _ => h) ⟨_, hB1, OwnL.nil _ _ _ _ _, hb1, Nat.le_refl _⟩
    (fun x a' W => ∃ Bx, w1.heap.size ≤ Bx ∧ Blk W Bx (encS x).toArray 59 ∧ a' = { tmps := #[.slice none 0 0, .func (.func 65) #[] #[.pointer (some ⟨bx, 0, none⟩)], .pointer (some ⟨w.heap.size, 0, none⟩), undef, .slice none 0 0, .pointer (some ⟨Bx, 0, none⟩), .func (.func 65) #[] #[.pointer (some ⟨bx, 0, none⟩)], mkS x, undef, undef, undef, undef, undef], defers := [] })
    ?hAx ?assign ?body ?done ?stop
  case hI =>
    rintro s X Y row ⟨v, h1, h2, h3, h4⟩ hg hr
    have hr' : ∀ r, row = some r → ∃ o : Obj, X.heap[r]? = some o ∧ o.isCells = false := fun r e => (hr r e).2
    exact ⟨v, h1.grownN hg hr', h2.grownN hg hr', h3.grown hg h3.size (fun g e => by have := (hr g e).1; omega), Nat.le_trans h4 hg.size⟩
  case hAx =>
    rintro x a' s X Y row ⟨Bx, h1, h2, h3⟩ hg hr
    exact ⟨Bx, h1, h2.grownN hg (fun r e => (hr r e).2), h3⟩
  case assign =>
    rintro l pre ⟨xl, ⟨xe, xr⟩⟩ W K ⟨v, h1, h2, h3, h4⟩ hK
    dsimp only [mkS] at hK ⊢
    gi_wp2
    have hc : Chg (fun _ => False) W (W.alloc (.cells #[.int .i64 xl, .int .i64 xe, .int .i64 xr] 59)) := (Chg.refl _ _).alloc _
    exact hK _ _ (keepsFrom_of_chg hc (fun _ h _ => h.elim)) (keepsWalks_chg hc (fun _ h _ => h.elim)) ⟨v, h1.alloc _, h2.alloc _, h3.alloc h3.size _, Nat.le_trans h4 hc.size⟩ ⟨W.heap.size, h4, Blk.new _ _ _, rfl⟩
  case body =>
    rintro l pre ⟨xl, ⟨xe, xr⟩⟩ a' W hl ⟨r, hr⟩ ⟨v, h1, h2, h3, h4⟩ ⟨Bx, hBx, hX, rfl⟩ hlt
    have cv := h1.cellAt (i := 0) (v := v) rfl
    have cf := h1.frozen 0
    have c0 := hX.cellAt (i := 0) (v := .int .i64 xl) rfl
    have c1 := hX.cellAt (i := 1) (v := .int .i64 xe) rfl
    have c2 := hX.cellAt (i := 2) (v := .int .i64 xr) rfl
    have hbl := h1.lt
    have hse : (#[.int .i64 xl, .int .i64 xe, .int .i64 xr] : Array Value) = (encS ⟨xl, ⟨xe, xr⟩⟩).toArray := rfl
    replace hse := Lib.hid hse
    dsimp only [mkS]
    gi_wp2_with (gi_at_builtin; refine wpListIn_of_wpListB _ (fun h => by obtain ⟨a, w, h⟩ := h; exact h) rfl ?hap)
    case hap =>
    rw [hse.out]
    refine wpList_app1g rfl _ _ 29 rfl Tryz.underlying29 hiS hS0 hS1 hS2 rfl (by decide) (enc := encS) ⟨xl, ⟨xe, xr⟩⟩ rfl h2 rfl (encS_len _) (encS_one _) (by omega) (by unfold maxLen; omega) h4 (fun g cap7 w7 hown7 hgr7 => ?_)
    have hc7 : Chg (fun k => v.ownBlock = some k) W w7 := Chg.of_grown hgr7.grown
    have hB7 := h1.chg hc7 (fun e => by have := (h2.lt _ e).1; omega)
    have hf7 := hB7.frozen 0
    have cv7 := hB7.cellAt (i := 0) (v := v) rfl
    have hb7 : Below w.heap.size w w7 := h3.trans (hc7.below h3.size (fun k hk e => by have := (h2.lt _ e).1; omega))
    have hcc : Chg (fun k => v.ownBlock = some k ∨ k = w.heap.size) W (w7.setCell ⟨w.heap.size, 0, none⟩ (.slice (some ⟨g, 0, none⟩) (pre.length + 1) cap7)) := (hc7.mono (fun k _ h => .inl h)).setCell _ _ (fun _ => .inr rfl)
    have hcell : ∀ j, (v.ownBlock = some j ∨ j = w.heap.size) → j < W.heap.size → ∃ cs T f, W.heap[j]? = some (.cells cs T f) := fun j hj _ => by
      rcases hj with e1 | rfl
      · rcases h2.form with ⟨h5, _⟩ | ⟨g', cap2, cells, h5, h6, _⟩
        · rw [h5] at e1; cases e1
        · rw [h5] at e1
          obtain rfl : g' = j := by simpa [Value.ownBlock] using e1
          exact ⟨_, _, _, h6⟩
      · exact ⟨_, _, _, h1⟩
    have hset := hB7.set 0 (.slice (some ⟨g, 0, none⟩) (pre.length + 1) cap7)
    have hown8 := hown7.chg ((Chg.refl (fun k => k = w.heap.size) w7).setCell ⟨w.heap.size, 0, none⟩ (.slice (some ⟨g, 0, none⟩) (pre.length + 1) cap7) (fun _ => rfl)) (fun g' e1 e2 => by have := (hown7.lt _ e1).1; omega)
    have hb8 := hb7.setCell (p := ⟨w.heap.size, 0, none⟩) (Nat.le_refl _) (.slice (some ⟨g, 0, none⟩) (pre.length + 1) cap7)
    have hz8 := Nat.le_trans h4 hcc.size
    clear cv cf c0 c1 c2
    go_wp2_with fail
    exact ⟨keepsFrom_of_chg hcc hcell, keepsWalks_chg hcc hcell, _, hset, hown8, hb8, hz8⟩
  case stop =>
    rintro D c pre W _ _ h _
    exact h.elim
  case done =>
    rintro D ys W hD hys ⟨v, h1, h2, h3, h4⟩ hK
    have cv := h1.cellAt (i := 0) (v := v) rfl
    try dsimp only
    go_wp2_with fail
    have hMk := marks_one (B := w.heap.size) (w := W) (D := D) (by omega) hK
    refine leavesM_marks _ _ hMk h3.size (fun w' hs => ?_)
    exact ⟨v, by first | exact results_tmp rfl _ _ _ | simp [results, Tryz.results77, go_sem], v, ys, rfl, hs.own (h2.base_le (by omega)), hys, h3.trans hs.below⟩

set_option maxRecDepth 100000 in
theorem collectKeys_any (bx mb : Nat) (es : List (TStamp × Value)) (w : World) (hbx : w.cell? ⟨bx, 0, none⟩ = some (.map (some mb))) (hM : MapL Tryz.prog 59 klS wfS w mb es) (hz : (es.length + 1) * 24 ≤ 140737488355328) :
    Calls Tryz.prog 63 #[.func (.func 65) #[] #[.pointer (some ⟨bx, 0, none⟩)]] w fun e w' =>
      ∃ v ys, e = .returned v ∧ OwnL encS w' w.heap.size 59 3 v ys ∧ ys.Perm (es.map Prod.fst) ∧ Below w.heap.size w w' := by
  have h := appendKeys_any bx mb es w hbx hM hz
  replace h := Lib.hid h
  go_enter Tryz.func63, Tryz.ntmps63
  go_wp2_with fail
  refine h.out.mono ?_
  rintro e w1 ⟨v, ys, rfl, h1, h2, h3⟩
  dsimp only
  go_wp2_with fail
  go_ret
  exact ⟨v, ys, rfl, h1, h2, h3⟩
set_option maxRecDepth 100000 in
theorem sortedKeys_any (bx mb : Nat) (es : List (TStamp × Value)) (w : World) (hbx : w.cell? ⟨bx, 0, none⟩ = some (.map (some mb))) (hM : MapL Tryz.prog 59 klS wfS w mb es) (hz : (es.length + 1) * 24 ≤ 140737488355328) :
    Calls Tryz.prog 45 #[.func (.func 65) #[] #[.pointer (some ⟨bx, 0, none⟩)], .func (.func 47) #[] #[]] w fun e w' =>
      ∃ v ys, e = .returned v ∧ OwnL encS w' w.heap.size 59 3 v ys ∧ ys.Perm (es.map Prod.fst) ∧ ys.Pairwise ltS ∧ Below w.heap.size w w' := by
  have h := collectKeys_any bx mb es w hbx hM hz
  replace h := Lib.hid h
  have hnd := hM.nodup
  clear hbx hM
  go_enter Tryz.func45, Tryz.ntmps45
  go_wp2_with fail
  refine h.out.mono ?_
  rintro e w1 ⟨v, ys, rfl, h1, h2, h3⟩
  have hl : ys.length = es.length := by rw [h2.length_eq, List.length_map]
  have hs := sortS_any ys v w1 w.heap.size h1 (by omega) (h2.nodup_iff.2 hnd)
  have hlt := h1.lt
  replace hs := Lib.hid hs
  clear h h1 hl
  dsimp only
  go_wp2_with fail
  refine hs.out.mono ?_
  rintro e w2 ⟨rfl, zs, hzl, hzp, hzs, ho, hg⟩
  have hb2 : Below w.heap.size w w2 := h3.grown hg h3.size (fun g e => (hlt g e).1)
  dsimp only
  go_wp2_with fail
  go_ret
  exact ⟨v, zs, rfl, ho, hzp.trans h2, hzs, hb2⟩
end Go.Proofs.YtjmbafcpbagpdaaGreat
