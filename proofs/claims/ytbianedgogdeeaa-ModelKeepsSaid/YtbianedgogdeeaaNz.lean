/- Model: the walk of ModelRuns. -/
import Derived.Test.YtbianedgogdeeaaNw
import Derived.Test.YtbianedgogdeeaaGsz
import Derived.Test.YtbianedgogdeeaaSsz
namespace Go.Proofs.Ytbianedgogdeeaa
open Go.RowKit Go.Maps Fold Go.Lib
attribute [local go_sem] Oper.semAt_some
set_option linter.unusedVariables false
set_option linter.unusedSimpArgs false

theorem runF_len {s : ST} {recs : List TRecord} : ∀ (ops : List TOp) (f : List PRS) (n : ST) (f' : List PRS) (n' : ST), runF s recs ops f n = some (f', n') → n'.length = n.length + ops.length
  | [], f, n, f', n', h => by
    simp only [runF, Option.some.injEq, Prod.mk.injEq] at h
    rw [h.2]
    rfl
  | o :: r, f, n, f', n', h => by
    unfold runF at h
    split at h
    · cases h
    · have := runF_len r _ _ _ _ h
      rw [this, List.length_append]
      simp
      omega
theorem runM_ok_len {ops : List TOp} {s : ST} {recs : List TRecord} (h : (runM ops s recs).2.2 = 0) : (runM ops s recs).2.1.length = ops.length := by
  unfold runM at h ⊢
  split at h
  · cases h
  split at h
  · cases h
  split at h
  · cases h
  rename_i h1 h2 h3
  rw [if_neg h1, if_neg h2, if_neg h3]
  cases hr : runF s recs ops [] [] with
  | none => rw [hr] at h; cases h
  | some p =>
    obtain ⟨f, n⟩ := p
    have := runF_len ops [] [] f n hr
    simpa using this
theorem stEq_refl (s : ST) : stEq s s = true := by
  unfold stEq
  rw [List.all_eq_true]
  exact fun i _ => decide_eq_true rfl

set_option maxRecDepth 100000 in
set_option maxHeartbeats 4000000 in
theorem mruns_walk (ops : List TOp) (s : ST) (recs : List TRecord) (ga so ra : Option Addr) (gcap scap rcap : Nat) (w : World) (hx : SlA w.heap.size 7 (ROp w.heap.size) w ga gcap ops) (hs : StA w w.heap.size so scap s) (hr : SlA w.heap.size 5 (RRecord w.heap.size) w ra rcap recs) (hsok : okS s) (hsz : ∀ l ∈ s, l.length ≤ 5864062014805) :
    Calls Try.prog 3 #[.agg #[.slice ga ops.length gcap], .agg #[.slice so s.length scap], .slice ra recs.length rcap] w fun e w' => e = .returned (.bool true) ∧ Below w.heap.size w w' := by
  have hrun := fun W (hW : Below w.heap.size w W) => run_any ops s recs ga so ra gcap scap rcap w.heap.size W hW.size (imp_ops hx hW) (hs.imp' hW (Nat.le_refl _)) (hr.imp hW (Nat.le_refl _) (fun _ _ _ h => h.imp hW (Nat.le_refl _))) hsok hsz
  have hrrun := fun W (hW : Below w.heap.size w W) => rrun_any ops s recs ga so ra gcap scap rcap w.heap.size W hW.size (imp_ops hx hW) (hs.imp' hW (Nat.le_refl _)) (hr.imp hW (Nat.le_refl _) (fun _ _ _ h => h.imp hW (Nat.le_refl _))) hsok hsz
  have hlen := fun h => runM_ok_len (ops := ops) (s := s) (recs := recs) h
  have hkn := fun W => mknown_any W
  obtain ⟨n, hn⟩ : ∃ n, n = ops.length := ⟨_, rfl⟩
  obtain ⟨sl, hsl⟩ : ∃ sl, sl = s.length := ⟨_, rfl⟩
  obtain ⟨m, hm⟩ : ∃ m, m = recs.length := ⟨_, rfl⟩
  rw [← hn] at hrun hrrun hlen ⊢
  rw [← hsl] at hrun hrrun ⊢
  rw [← hm] at hrun hrrun ⊢
  obtain ⟨⟨R1, R2, he⟩, hR⟩ : ∃ R, R = runM ops s recs := ⟨_, rfl⟩
  rw [← hR] at hrun hrrun hlen
  dsimp only at hlen
  unfold RunPost at hrun
  unfold RRPost at hrrun
  dsimp only at hrun hrrun
  obtain ⟨n1, hn1⟩ : ∃ n1, n1 = R1.length := ⟨_, rfl⟩
  obtain ⟨n2, hn2⟩ : ∃ n2, n2 = R2.length := ⟨_, rfl⟩
  rw [← hn2] at hrrun hlen
  replace hrun := Lib.hid hrun
  replace hrrun := Lib.hid hrrun
  replace hlen := Lib.hid hlen
  replace hkn := Lib.hid hkn
  replace hn := Lib.hid hn
  replace hsl := Lib.hid hsl
  replace hm := Lib.hid hm
  replace hR := Lib.hid hR
  replace hn1 := Lib.hid hn1
  replace hn2 := Lib.hid hn2
  clear hx hs hr hsok hsz
  go_enter Try.func3, Try.ntmps3
  go_upto_region 1 with fail
  refine Code.wp_world ?_
  intro w1 hw1
  have hb1 : Below w.heap.size w w1 := by rw [hw1]; exact (by repeat (first | exact Below.refl _ _ | refine below_drewN ?_ _ | refine Below.drew ?_ | (refine Below.alloc ?_ (by simp; try omega) _)))
  have hG1 : Blk w1 w.heap.size #[.slice ga n gcap] 24 := by rw [hw1]; exact (Blk.new _ _ _).alloc _
  have hS1 : Blk w1 (w.heap.size + 1) #[.slice so sl scap] 27 := by
    rw [hw1]
    have := Blk.new (w.alloc (.cells #[.slice ga n gcap] 24)) #[.slice so sl scap] 27
    rwa [World.size_alloc] at this
  obtain ⟨zb, hzb⟩ : ∃ zb, zb = w.heap.size := ⟨_, rfl⟩
  have hG2 := hG1
  have hS2 := hS1
  rw [← hzb] at hG2 hS2 ⊢
  have g0 := hG2.cellAt (i := 0) (v := .slice ga n gcap) rfl
  have s0 := hS2.cellAt (i := 0) (v := .slice so sl scap) rfl
  replace hzb := Lib.hid hzb
  clear hw1 hG1 hS1
  have hrun1 := hrun.out w1 hb1
  replace hrun1 := Lib.hid hrun1
  clear hrun
  go_wp2_with (go_at_call 10; refine Shut.out ?ka)
  unfold Shut
  refine hrun1.out.mono ?_
  rintro e w2 ⟨v2, sv2, rfl, hO2, hT2, hb2⟩
  obtain ⟨tq, tc, rfl, hT2'⟩ := hT2.sta
  obtain ⟨lo, lc, rfl, hL2⟩ := OwnR.pra hO2
  rw [← hn1.out, ← hn2.out]
  have hG3 := hG2.below hb2 hG2.lt
  have hS3 := hS2.below hb2 hS2.lt
  have hb12 := hb1.trans (hb2.mono hb1.size)
  clear hrun1 hT2 hO2 g0 s0 hG2 hS2 hb2
  dsimp only
  go_upto_region 2 with fail
  refine Code.wp_world ?_
  intro w3 hw3
  have hb3 : Below w2.heap.size w2 w3 := by rw [hw3]; exact belowAlloc _ _
  have hZ3 : Blk w3 w2.heap.size #[.slice tq n2 tc] 27 := by rw [hw3]; exact Blk.new _ _ _
  obtain ⟨z8, hz8⟩ : ∃ z8, z8 = w2.heap.size := ⟨_, rfl⟩
  rw [← hz8] at hZ3 ⊢
  have hG4 := hG3.below hb3 hG3.lt
  have hS4 := hS3.below hb3 hS3.lt
  have hb13 := hb12.trans (hb3.mono hb12.size)
  have hL3 := hL2.imp' hb3 (Nat.le_refl _)
  have hT3 := hT2'.imp' hb3 (Nat.le_refl _)
  have hsz23 := hb3.size
  have g0 := hG4.cellAt (i := 0) (v := .slice ga n gcap) rfl
  have s0 := hS4.cellAt (i := 0) (v := .slice so sl scap) rfl
  have hrr3 := hrrun.out w3 hb13
  replace hrr3 := Lib.hid hrr3
  replace hz8 := Lib.hid hz8
  clear hw3 hb3 hG3 hS3 hL2 hT2' hrrun hb12
  go_wp2_with (go_at_call 11; refine Shut.out ?kb)
  unfold Shut
  refine hrr3.out.mono ?_
  rintro e w4 ⟨v4, uo, uc, rfl, hO4, hU4, hb4⟩
  obtain ⟨mo, mc, rfl, hM4⟩ := OwnR.pra hO4
  rw [← hn1.out]
  have hG5 := hG4.below hb4 hG4.lt
  have hZ5 := hZ3.below hb4 hZ3.lt
  have hb14 := hb13.trans (hb4.mono hb13.size)
  have hL4 := hL3.imp' (hb4.mono hsz23) (Nat.le_refl _)
  have hT4 := hT3.imp' (hb4.mono hsz23) (Nat.le_refl _)
  have hsz24 := Nat.le_trans hsz23 hb4.size
  clear hrr3 hO4 g0 s0 hG4 hS4 hZ3 hb4 hb13 hL3 hT3
  dsimp only
  go_upto_region 3 with fail
  refine Code.wp_world ?_
  intro w5 hw5
  have hb5 : Below w4.heap.size w4 w5 := by rw [hw5]; exact belowAlloc _ _
  have hY5 : Blk w5 w4.heap.size #[.slice uo n2 uc] 27 := by rw [hw5]; exact Blk.new _ _ _
  obtain ⟨z11, hz11⟩ : ∃ z11, z11 = w4.heap.size := ⟨_, rfl⟩
  rw [← hz11] at hY5 ⊢
  have hG6 := hG5.below hb5 hG5.lt
  have hZ6 := hZ5.below hb5 hZ5.lt
  have hb15 := hb14.trans (hb5.mono hb14.size)
  have hsz45 := hb5.size
  have hL5 : ∀ W, Below w5.heap.size w5 W → PrA w4.heap.size W lo lc R1 := fun W hW => ((hL4.imp' ((hb5.trans (hW.mono hsz45)).mono hsz24) (Nat.le_refl _)).imp (Below.refl _ _) hsz24 (fun _ _ _ h => h))
  have hT5 : ∀ W, Below w5.heap.size w5 W → StA W w4.heap.size tq tc R2 := fun W hW => ((hT4.imp' ((hb5.trans (hW.mono hsz45)).mono hsz24) (Nat.le_refl _)).imp' (Below.refl _ _) hsz24)
  have hM5 : ∀ W, Below w5.heap.size w5 W → PrA w4.heap.size W mo mc R1 := fun W hW => hM4.imp' (hb5.trans (hW.mono hsz45)) (Nat.le_refl _)
  have hU5 : ∀ W, Below w5.heap.size w5 W → StA W w4.heap.size uo uc R2 := fun W hW => hU4.imp' (hb5.trans (hW.mono hsz45)) (Nat.le_refl _)
  have hsp := fun W (hW : Below w5.heap.size w5 W) => same_any R1 R1 lo mo lc mc w4.heap.size W (Nat.le_trans hsz45 hW.size) (hL5 W hW) (hM5 W hW)
  have hss := fun W (hW : Below w5.heap.size w5 W) => sameSt_any R2 R2 tq uo tc uc w4.heap.size W (Nat.le_trans hsz45 hW.size) (hT5 W hW) (hU5 W hW)
  rw [decide_eq_true rfl, ← hn1.out] at hsp
  rw [stEq_refl, ← hn2.out] at hss
  have hcz := fun W (hW : Below w5.heap.size w5 W) => (hW.cell (p := ⟨z8, 0, none⟩) hZ6.lt).trans (hZ6.cellAt (i := 0) (v := .slice tq n2 tc) rfl)
  have hcy := fun W (hW : Below w5.heap.size w5 W) => (hW.cell (p := ⟨z11, 0, none⟩) hY5.lt).trans (hY5.cellAt (i := 0) (v := .slice uo n2 uc) rfl)
  have hcg := fun W (hW : Below w5.heap.size w5 W) => (hW.cell (p := ⟨zb, 0, none⟩) hG6.lt).trans (hG6.cellAt (i := 0) (v := .slice ga n gcap) rfl)
  replace hsp := Lib.hid hsp
  replace hss := Lib.hid hss
  replace hcz := Lib.hid hcz
  replace hcy := Lib.hid hcy
  replace hcg := Lib.hid hcg
  replace hz11 := Lib.hid hz11
  clear hw5 hb5 hG5 hZ5 hL4 hT4 hM4 hU4 hL5 hT5 hM5 hU5 hb14 hG6 hZ6 hY5
  go_wp2_with (go_at_call 12; refine Shut.out ?kc)
  unfold Shut
  refine (hkn.out w5).mono ?_
  rintro e w6 ⟨rfl, hb6⟩
  have hsp6 := hsp.out w6 hb6
  replace hsp6 := Lib.hid hsp6
  clear hkn hsp
  dsimp only
  go_wp2_with (go_at_call 13; refine Shut.out ?kd)
  unfold Shut
  refine hsp6.out.mono ?_
  rintro e w7 ⟨rfl, hb7⟩
  have hb57 := hb6.trans (hb7.mono hb6.size)
  have hss7 := hss.out w7 hb57
  have y7 := hcy.out w7 hb57
  have z7 := hcz.out w7 hb57
  replace hss7 := Lib.hid hss7
  clear hsp6 hss hb6 hb7
  dsimp only
  go_wp2_with (go_at_call 14; refine Shut.out ?ke)
  unfold Shut
  refine hss7.out.mono ?_
  rintro e w8 ⟨rfl, hb8⟩
  have hb58 := hb57.trans (hb8.mono hb57.size)
  have z8' := hcz.out w8 hb58
  have g8 := hcg.out w8 hb58
  have hfin := hb15.trans (hb58.mono hb15.size)
  clear hss7 y7 z7 hcy hcz hcg hb57 hb8
  dsimp only
  by_cases h0 : he = 0
  · have hn2n := hlen.out h0
    subst h0
    subst hn2n
    clear hlen
    go_wp2_with fail
    go_ret
    exact ⟨rfl, hfin⟩
  · have d2 : ((he : Int) != 0) = true := by simp; omega
    clear hlen
    go_wp2_with fail
    go_ret
    exact ⟨rfl, hfin⟩
theorem mruns_row {w : World} (cs0 : Array Value) (x0 : TGraph) (hx0 : RGraph w.heap.size w (Value.cells (.agg cs0)).toList x0) (hz0 : x0.fOps.length * 72 ≤ reachBytes) (hzi0 : ∀ o ∈ x0.fOps, o.fIn.length * 8 ≤ reachBytes)
    (cs1 : Array Value) (x1 : TState) (hx1 : RState w.heap.size w (Value.cells (.agg cs1)).toList x1) (hz1 : x1.fFolds.length * 24 ≤ reachBytes) (hzi1 : ∀ l ∈ x1.fFolds, l.length * 24 ≤ reachBytes)
    (a2 : Option Addr) (len2 cap2 : Nat) (x2 : List TRecord) (hx2 : RSl w.heap.size 5 (RRecord w.heap.size) w (Value.cells (.slice a2 len2 cap2)).toList x2) (z2 : cap2 * 48 ≤ reachBytes) :
    Calls Try.prog 3 #[.agg cs0, .agg cs1, .slice a2 len2 cap2] w fun e w' => e = .returned (.bool true) ∧ Below w.heap.size w w' := by
  obtain ⟨ga, gcap, rfl, hg⟩ := graph_agg hx0
  obtain ⟨sa, scap, rfl, hs⟩ := state_agg hx1
  have h2' : len2 = x2.length ∧ SlA w.heap.size 5 (RRecord w.heap.size) w a2 cap2 x2 := by
    obtain ⟨ao, c, h1, h2⟩ := hx2
    simp only [Value.cells, List.cons.injEq, Value.slice.injEq, and_true] at h1
    obtain ⟨rfl, rfl, rfl⟩ := h1
    exact ⟨rfl, h2⟩
  obtain ⟨rfl, h2⟩ := h2'
  have hr : reachBytes = 140737488351232 := rfl
  obtain ⟨hst, hok⟩ := sta_of_in hs
  have h := mruns_walk x0.fOps (x1.fFolds.map (fun l => l.map prOf)) x2 ga sa a2 gcap scap cap2 w hg hst h2 hok (fun l hl => by
    obtain ⟨x, hx, rfl⟩ := List.mem_map.1 hl
    have := hzi1 x hx
    rw [List.length_map]
    omega)
  rwa [List.length_map] at h
end Go.Proofs.Ytbianedgogdeeaa
