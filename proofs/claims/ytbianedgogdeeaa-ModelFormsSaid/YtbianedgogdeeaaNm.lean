/- Model: the walk of ModelForms. -/
import Derived.Test.YtbianedgogdeeaaNl
namespace Go.Proofs.Ytbianedgogdeeaa
open Go.RowKit Go.Maps Fold Go.Lib
attribute [local go_sem] Oper.semAt_some
set_option linter.unusedVariables false
set_option linter.unusedSimpArgs false

theorem fldS (a : Value) (w : World) : (Instr.field 27 (.agg #[a]) 0).run Try.prog w = .ok a w := by kernel_rfl
attribute [local go_sem] fldS
theorem sto_rep {w : World} {rb n base : Nat} (h : Blk w rb (Array.replicate n (.slice none 0 0)) 29) (hb : rb < base) (hn : n ≤ maxLen) : StA w base (some ⟨rb, 0, none⟩) n (List.replicate n []) := by
  refine SlA.of_blk h hb (by simp) hn (fun i hi => ?_)
  rw [List.length_replicate] at hi
  refine ⟨[.slice none 0 0], rfl, fun j hj => ?_, none, 0, by simp, ?_⟩
  · obtain rfl : j = 0 := by omega
    simp [hi]
  · simp only [List.getElem_replicate]
    exact SlA.nil _ _ _ _
theorem stEq_rep (n : Nat) : stEq (List.replicate n []) [] = true := by
  unfold stEq
  rw [List.all_eq_true]
  intro i _
  refine decide_eq_true ?_
  unfold keptAt
  by_cases h : i < n
  · simp [h]
  · simp [h]

set_option maxRecDepth 100000 in
set_option maxHeartbeats 4000000 in
theorem mforms_walk (ops : List TOp) (s : ST) (l : PRS) (ga so la : Option Addr) (gcap scap lcap : Nat) (w : World) (hx : SlA w.heap.size 7 (ROp w.heap.size) w ga gcap ops) (hs : StA w w.heap.size so scap s) (hp : PrA w.heap.size w la lcap l) (hgz : ops.length ≤ 5864062014805) (hz : l.length ≤ 5864062014805) :
    Calls Try.prog 4 #[.agg #[.slice ga ops.length gcap], .agg #[.slice so s.length scap], .slice la l.length lcap] w fun e w' => e = .returned (.bool true) ∧ Below w.heap.size w w' := by
  have hem := fun W => empty_any ops.length ga gcap W hgz
  have hord := fun W (hW : Below w.heap.size w W) => order_any l la lcap w.heap.size W hW.size (hp.imp' hW (Nat.le_refl _)) hz
  have hrord := fun W (hW : Below w.heap.size w W) => rorder_any _ l la lcap w.heap.size W rfl hW.size (hp.imp' hW (Nat.le_refl _)) hz
  have hgd := fun W (hW : Below w.heap.size w W) => good_any ops s ga so gcap scap w.heap.size W hW.size (imp_ops hx hW) (hs.imp' hW (Nat.le_refl _))
  have hrgd := fun W (hW : Below w.heap.size w W) => rgood_any ops s ga so gcap scap w.heap.size W hW.size (imp_ops hx hW) (hs.imp' hW (Nat.le_refl _))
  have hss := fun (W : World) (rb : Nat) (hB : Blk W rb (Array.replicate ops.length (.slice none 0 0)) 29) => sameSt_any (List.replicate ops.length []) [] (some ⟨rb, 0, none⟩) none ops.length 0 W.heap.size W (Nat.le_refl _) (sto_rep hB hB.lt (by unfold maxLen; omega)) (SlA.nil _ _ _ _)
  rw [stEq_rep] at hss
  simp only [List.length_replicate, List.length_nil] at hss
  obtain ⟨n, hn⟩ : ∃ n, n = ops.length := ⟨_, rfl⟩
  obtain ⟨m, hm⟩ : ∃ m, m = s.length := ⟨_, rfl⟩
  obtain ⟨k, hk⟩ : ∃ k, k = l.length := ⟨_, rfl⟩
  obtain ⟨g, hg⟩ : ∃ g, g = goodS ops s := ⟨_, rfl⟩
  rw [← hn] at hem hgd hrgd hss ⊢
  rw [← hm] at hgd hrgd ⊢
  rw [← hk] at hord hrord ⊢
  rw [← hg] at hgd hrgd
  have hkn := fun W => mknown_any W
  replace hn := Lib.hid hn
  replace hm := Lib.hid hm
  replace hk := Lib.hid hk
  replace hg := Lib.hid hg
  replace hem := Lib.hid hem
  replace hord := Lib.hid hord
  replace hrord := Lib.hid hrord
  replace hgd := Lib.hid hgd
  replace hrgd := Lib.hid hrgd
  replace hss := Lib.hid hss
  replace hkn := Lib.hid hkn
  clear hx hs hp hgz hz
  go_enter Try.func4, Try.ntmps4
  go_upto_region 1 with fail
  refine Code.wp_world ?_
  intro w1 hw1
  have hb1 : Below w.heap.size w w1 := by rw [hw1]; exact (by repeat (first | exact Below.refl _ _ | refine below_drewN ?_ _ | refine Below.drew ?_ | (refine Below.alloc ?_ (by simp; try omega) _)))
  have hG1 : Blk w1 w.heap.size #[.slice ga n gcap] 24 := by rw [hw1]; exact (Blk.new _ _ _).alloc _
  have hS1 : Blk w1 (w.heap.size + 1) #[.slice so m scap] 27 := by
    rw [hw1]
    have := Blk.new (w.alloc (.cells #[.slice ga n gcap] 24)) #[.slice so m scap] 27
    rwa [World.size_alloc] at this
  obtain ⟨zb, hzb⟩ : ∃ zb, zb = w.heap.size := ⟨_, rfl⟩
  have hG2 := hG1
  have hS2 := hS1
  rw [← hzb] at hG2 hS2 ⊢
  have hzl0 : zb < w1.heap.size := hG2.lt
  have hzl1 : zb + 1 < w1.heap.size := hS2.lt
  have z0 := hG2.cellAt (i := 0) (v := .slice ga n gcap) rfl
  have z1 := hS2.cellAt (i := 0) (v := .slice so m scap) rfl
  replace hzb := Lib.hid hzb
  clear hw1 hG1 hS1 hG2 hS2
  have ho1 := hord.out w1 hb1
  replace ho1 := Lib.hid ho1
  clear hord
  go_wp2_with (go_at_call 15; refine Shut.out ?ka)
  unfold Shut
  refine ho1.out.mono ?_
  rintro e w2 ⟨v2, rfl, hO2, hb2⟩
  obtain ⟨oa, oc, rfl, hP2⟩ := OwnR.pra hO2
  have hkl : (sortP l).length = k := by rw [(sortP_perm l).length_eq, hk.out]
  rw [hkl]
  clear ho1 hO2
  have c0 := (hb2.cell (p := ⟨zb, 0, none⟩) hzl0).trans z0
  have c1 := (hb2.cell (p := ⟨zb + 1, 0, none⟩) hzl1).trans z1
  dsimp only
  go_upto_region 2 with fail
  have hbc : Below w1.heap.size w1 w2.drew := hb2.drew
  have hb29x : Below w2.heap.size w2 w2.drew := (Below.refl _ _).drew
  refine wp_region_tree (fun wx => wx.cell? ⟨zb, 0, none⟩ = some (.slice ga n gcap) ∧ wx.cell? ⟨zb + 1, 0, none⟩ = some (.slice so m scap)) 32 33 (by kernel_rfl) rfl (by kernel_rfl) (fun d _ _ _ _ h => by cases d <;> exact h) (⟨c0, c1⟩) (fun opz T hOps hT hTok hHeld => ?_)
  refine wpTree_1 0 hOps (by kernel_rfl) (by decide) rfl (fun K' hK => ?_)
  go_simp
  refine (hkn.out _).mono ?_
  rintro e w3 ⟨rfl, hbn⟩
  dsimp only
  replace hbc := hbc.trans (hbn.mono hbc.size)
  replace hb29x := hb29x.trans (hbn.mono hb29x.size)
  refine hK.out _ _ ⟨(hbc.cell (p := ⟨zb, 0, none⟩) hzl0).trans z0, (hbc.cell (p := ⟨zb + 1, 0, none⟩) hzl1).trans z1⟩ ?_
  clear hK K'
  try simp only [Act.put, List.setIfInBounds_toArray, List.set_cons_zero, List.set_cons_succ]
  clear hkn
  (refine wpTree_q 1 hTok hOps (by kernel_rfl) rfl rfl ⟨?_, ?_, ?_⟩; rotate_left; (focus (intro wx hSx; (try dsimp only at hSx); go_simp; (try with_reducible rfl))); (simp only [Act.put, List.setIfInBounds_toArray, List.set_cons_zero, List.set_cons_succ]))
  (refine wpTree_qg 2 hTok hOps (by kernel_rfl) rfl rfl ⟨?_, ?_, ?_⟩; rotate_left; (focus (intro wx hSx; (try dsimp only at hSx); go_simp; (try with_reducible rfl))); (simp only [Act.put, List.setIfInBounds_toArray, List.set_cons_zero, List.set_cons_succ]))
  (refine wpTree_qg 6 hTok hOps (by kernel_rfl) rfl rfl ⟨?_, ?_, ?_⟩; rotate_left; (focus (intro wx hSx; (try dsimp only at hSx); go_simp; (try with_reducible rfl))); (simp only [Act.put, List.setIfInBounds_toArray, List.set_cons_zero, List.set_cons_succ]))
  (refine wpTree_qg 7 hTok hOps (by kernel_rfl) rfl rfl ⟨?_, ?_, ?_⟩; rotate_left; (focus (intro wx hSx; (try dsimp only at hSx); go_simp; (try with_reducible rfl))); (simp only [Act.put, List.setIfInBounds_toArray, List.set_cons_zero, List.set_cons_succ]))
  (refine wpTree_qg 8 hTok hOps (by kernel_rfl) rfl rfl ⟨?_, ?_, ?_⟩; rotate_left; (focus (intro wx hSx; (try dsimp only at hSx); go_simp; (try with_reducible rfl))); (simp only [Act.put, List.setIfInBounds_toArray, List.set_cons_zero, List.set_cons_succ]))
  refine wpTree_1g 3 hOps (by kernel_rfl) (by decide) rfl rfl (fun K' hK => ?_)
  go_simp
  refine (hem.out _).mono ?_
  rintro e w4 ⟨rb, rfl, -, -, hbn⟩
  dsimp only
  replace hbc := hbc.trans (hbn.mono hbc.size)
  replace hb29x := hb29x.trans (hbn.mono hb29x.size)
  refine hK.out _ _ ⟨(hbc.cell (p := ⟨zb, 0, none⟩) hzl0).trans z0, (hbc.cell (p := ⟨zb + 1, 0, none⟩) hzl1).trans z1⟩ ?_
  clear hK K'
  try simp only [Act.put, List.setIfInBounds_toArray, List.set_cons_zero, List.set_cons_succ]
  (refine wpTree_qg 4 hTok hOps (by kernel_rfl) rfl rfl ⟨?_, ?_, ?_⟩; rotate_left; (focus (intro wx hSx; (try dsimp only at hSx); go_simp; (try with_reducible rfl))); (simp only [Act.put, List.setIfInBounds_toArray, List.set_cons_zero, List.set_cons_succ]))
  (refine wpTree_qg 5 hTok hOps (by kernel_rfl) rfl rfl ⟨?_, ?_, ?_⟩; rotate_left; (focus (intro wx hSx; (try dsimp only at hSx); go_simp; (try with_reducible rfl))); (simp only [Act.put, List.setIfInBounds_toArray, List.set_cons_zero, List.set_cons_succ]))
  (refine wpTree_qg 9 hTok hOps (by kernel_rfl) rfl rfl ⟨?_, ?_, ?_⟩; rotate_left; (focus (intro wx hSx; (try dsimp only at hSx); go_simp; (try with_reducible rfl))); (simp only [Act.put, List.setIfInBounds_toArray, List.set_cons_zero, List.set_cons_succ]))
  (refine wpTree_q 10 hTok hOps (by kernel_rfl) rfl rfl ⟨?_, ?_, ?_⟩; rotate_left; (focus (intro wx hSx; (try dsimp only at hSx); go_simp; (try with_reducible rfl))); (simp only [Act.put, List.setIfInBounds_toArray, List.set_cons_zero, List.set_cons_succ]))
  (refine wpTree_q 11 hTok hOps (by kernel_rfl) rfl rfl ⟨?_, ?_, ?_⟩; rotate_left; (focus (intro wx hSx; (try dsimp only at hSx); go_simp; (try with_reducible rfl))); (simp only [Act.put, List.setIfInBounds_toArray, List.set_cons_zero, List.set_cons_succ]))
  (refine wpTree_qg 12 hTok hOps (by kernel_rfl) rfl rfl ⟨?_, ?_, ?_⟩; rotate_left; (focus (intro wx hSx; (try dsimp only at hSx); go_simp; (try with_reducible rfl))); (simp only [Act.put, List.setIfInBounds_toArray, List.set_cons_zero, List.set_cons_succ]))
  (refine wpTree_qg 14 hTok hOps (by kernel_rfl) rfl rfl ⟨?_, ?_, ?_⟩; rotate_left; (focus (intro wx hSx; (try dsimp only at hSx); go_simp; (try with_reducible rfl))); (simp only [Act.put, List.setIfInBounds_toArray, List.set_cons_zero, List.set_cons_succ]))
  refine wpTree_1g 13 hOps (by kernel_rfl) (by decide) rfl rfl (fun K' hK => ?_)
  go_simp
  refine (hem.out _).mono ?_
  rintro e w5 ⟨rb2, rfl, hR5, -, hbn⟩
  dsimp only
  replace hbc := hbc.trans (hbn.mono hbc.size)
  replace hb29x := hb29x.trans (hbn.mono hb29x.size)
  refine hK.out _ _ ⟨(hbc.cell (p := ⟨zb, 0, none⟩) hzl0).trans z0, (hbc.cell (p := ⟨zb + 1, 0, none⟩) hzl1).trans z1⟩ ?_
  clear hK K'
  try simp only [Act.put, List.setIfInBounds_toArray, List.set_cons_zero, List.set_cons_succ]
  refine wpTree_1g 15 hOps (by kernel_rfl) (by decide) rfl rfl (fun K' hK => ?_)
  go_simp
  refine (hss.out _ _ hR5).mono ?_
  rintro e w6 ⟨rfl, hbn⟩
  dsimp only
  replace hbc := hbc.trans (hbn.mono hbc.size)
  replace hb29x := hb29x.trans (hbn.mono hb29x.size)
  refine hK.out _ _ ⟨(hbc.cell (p := ⟨zb, 0, none⟩) hzl0).trans z0, (hbc.cell (p := ⟨zb + 1, 0, none⟩) hzl1).trans z1⟩ ?_
  clear hK K'
  try simp only [Act.put, List.setIfInBounds_toArray, List.set_cons_zero, List.set_cons_succ]
  clear hss hR5 hem
  (refine wpTree_q 16 hTok hOps (by kernel_rfl) rfl rfl ⟨?_, ?_, ?_⟩; rotate_left; (focus (intro wx hSx; (try dsimp only at hSx); go_simp; (try with_reducible rfl))); (simp only [Act.put, List.setIfInBounds_toArray, List.set_cons_zero, List.set_cons_succ]))
  (refine wpTree_q 17 hTok hOps (by kernel_rfl) rfl rfl ⟨?_, ?_, ?_⟩; rotate_left; (focus (intro wx hSx; (try dsimp only at hSx); go_simp; (try with_reducible rfl))); (simp only [Act.put, List.setIfInBounds_toArray, List.set_cons_zero, List.set_cons_succ]))
  (refine wpTree_qg 18 hTok hOps (by kernel_rfl) rfl rfl ⟨?_, ?_, ?_⟩; rotate_left; (focus (intro wx hSx; (try dsimp only at hSx); go_simp; (try with_reducible rfl))); (simp only [Act.put, List.setIfInBounds_toArray, List.set_cons_zero, List.set_cons_succ]))
  (refine wpTree_qg 19 hTok hOps (by kernel_rfl) rfl rfl ⟨?_, ?_, ?_⟩; rotate_left; (focus (intro wx hSx; (try dsimp only at hSx); go_simp; (try with_reducible rfl))); (simp only [Act.put, List.setIfInBounds_toArray, List.set_cons_zero, List.set_cons_succ]))
  (refine wpTree_qg 21 hTok hOps (by kernel_rfl) rfl rfl ⟨?_, ?_, ?_⟩; rotate_left; (focus (intro wx hSx; (try dsimp only at hSx); go_simp; (try with_reducible rfl))); (simp only [Act.put, List.setIfInBounds_toArray, List.set_cons_zero, List.set_cons_succ]))
  (refine wpTree_qg 22 hTok hOps (by kernel_rfl) rfl rfl ⟨?_, ?_, ?_⟩; rotate_left; (focus (intro wx hSx; (try dsimp only at hSx); go_simp; (try with_reducible rfl))); (simp only [Act.put, List.setIfInBounds_toArray, List.set_cons_zero, List.set_cons_succ]))
  refine wpTree_1g 20 hOps (by kernel_rfl) (by decide) rfl rfl (fun K' hK => ?_)
  go_simp
  refine (hgd.out _ (hb1.trans (hbc.mono hb1.size))).mono ?_
  rintro e w7 ⟨rfl, hbn⟩
  dsimp only
  replace hbc := hbc.trans (hbn.mono hbc.size)
  replace hb29x := hb29x.trans (hbn.mono hb29x.size)
  refine hK.out _ _ ⟨(hbc.cell (p := ⟨zb, 0, none⟩) hzl0).trans z0, (hbc.cell (p := ⟨zb + 1, 0, none⟩) hzl1).trans z1⟩ ?_
  clear hK K'
  try simp only [Act.put, List.setIfInBounds_toArray, List.set_cons_zero, List.set_cons_succ]
  clear hgd
  refine wpTree_1g 23 hOps (by kernel_rfl) (by decide) rfl rfl (fun K' hK => ?_)
  go_simp
  refine (hrgd.out _ (hb1.trans (hbc.mono hb1.size))).mono ?_
  rintro e w8 ⟨rfl, hbn⟩
  dsimp only
  replace hbc := hbc.trans (hbn.mono hbc.size)
  replace hb29x := hb29x.trans (hbn.mono hb29x.size)
  refine hK.out _ _ ⟨(hbc.cell (p := ⟨zb, 0, none⟩) hzl0).trans z0, (hbc.cell (p := ⟨zb + 1, 0, none⟩) hzl1).trans z1⟩ ?_
  clear hK K'
  try simp only [Act.put, List.setIfInBounds_toArray, List.set_cons_zero, List.set_cons_succ]
  clear hrgd
  (refine wpTree_qg 24 hTok hOps (by kernel_rfl) rfl rfl ⟨?_, ?_, ?_⟩; rotate_left; (focus (intro wx hSx; (try dsimp only at hSx); go_simp; (try with_reducible rfl))); (simp only [Act.put, List.setIfInBounds_toArray, List.set_cons_zero, List.set_cons_succ]))
  (refine wpTree_q 25 hTok hOps (by kernel_rfl) rfl rfl ⟨?_, ?_, ?_⟩; rotate_left; (focus (intro wx hSx; (try dsimp only at hSx); go_simp; (try with_reducible rfl))); (simp only [Act.put, List.setIfInBounds_toArray, List.set_cons_zero, List.set_cons_succ]))
  (refine wpTree_q 26 hTok hOps (by kernel_rfl) rfl rfl ⟨?_, ?_, ?_⟩; rotate_left; (focus (intro wx hSx; (try dsimp only at hSx); go_simp; (try with_reducible rfl))); (simp only [Act.put, List.setIfInBounds_toArray, List.set_cons_zero, List.set_cons_succ]))
  (refine wpTree_qg 27 hTok hOps (by kernel_rfl) rfl rfl ⟨?_, ?_, ?_⟩; rotate_left; (focus (intro wx hSx; (try dsimp only at hSx); go_simp; (try with_reducible rfl))); (simp only [Act.put, List.setIfInBounds_toArray, List.set_cons_zero, List.set_cons_succ]))
  (refine wpTree_qg 28 hTok hOps (by kernel_rfl) rfl rfl ⟨?_, ?_, ?_⟩; rotate_left; (focus (intro wx hSx; (try dsimp only at hSx); go_simp; (try with_reducible rfl))); (simp only [Act.put, List.setIfInBounds_toArray, List.set_cons_zero, List.set_cons_succ]))
  refine wpTree_1g 29 hOps (by kernel_rfl) (by decide) rfl rfl (fun K' hK => ?_)
  go_simp
  refine (hrord.out _ (hb1.trans (hbc.mono hb1.size))).mono ?_
  rintro e w9 ⟨v9, rfl, hO9, hbn⟩
  obtain ⟨pa, pc, rfl, hP9⟩ := OwnR.pra hO9
  rw [hkl]
  clear hO9 hrord
  dsimp only
  replace hbc := hbc.trans (hbn.mono hbc.size)
  have hb29 : Below w2.heap.size w2 w9 := hb29x.trans (hbn.mono hb29x.size)
  refine hK.out _ _ ⟨(hbc.cell (p := ⟨zb, 0, none⟩) hzl0).trans z0, (hbc.cell (p := ⟨zb + 1, 0, none⟩) hzl1).trans z1⟩ ?_
  clear hK K'
  try simp only [Act.put, List.setIfInBounds_toArray, List.set_cons_zero, List.set_cons_succ]
  have hsm := same_any (sortP l) (sortP l) oa pa oc pc w9.heap.size w9 (Nat.le_refl _) ((PrA.imp' hP2 hb29 (Nat.le_refl _)).imp (Below.refl _ _) hb29.size (fun _ _ _ h => h)) hP9
  rw [hkl, decide_eq_true rfl] at hsm
  replace hsm := Lib.hid hsm
  refine wpTree_1g 30 hOps (by kernel_rfl) (by decide) rfl rfl (fun K' hK => ?_)
  go_simp
  refine (hsm.out).mono ?_
  rintro e w10 ⟨rfl, hbn⟩
  dsimp only
  replace hbc := hbc.trans (hbn.mono hbc.size)
  refine hK.out _ _ ⟨(hbc.cell (p := ⟨zb, 0, none⟩) hzl0).trans z0, (hbc.cell (p := ⟨zb + 1, 0, none⟩) hzl1).trans z1⟩ ?_
  clear hK K'
  try simp only [Act.put, List.setIfInBounds_toArray, List.set_cons_zero, List.set_cons_succ]
  (refine wpTree_q 31 hTok hOps (by kernel_rfl) rfl rfl ⟨?_, ?_, ?_⟩; rotate_left; (focus (intro wx hSx; (try dsimp only at hSx); go_simp; (try with_reducible rfl))); (simp only [Act.put, List.setIfInBounds_toArray, List.set_cons_zero, List.set_cons_succ]))
  refine wpTree_nil hOps (by kernel_rfl) ?_
  refine hT.out _ _ ?_
  simp only [List.drop_succ_cons, List.drop_zero]
  clear hOps hT hTok hHeld
  go_wp2_with fail
  go_ret
  exact ⟨rfl, hb1.trans (hbc.mono hb1.size)⟩
end Go.Proofs.Ytbianedgogdeeaa
