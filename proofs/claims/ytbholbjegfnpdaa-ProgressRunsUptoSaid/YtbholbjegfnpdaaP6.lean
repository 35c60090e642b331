/- Progress: the walk of ProgressRuns. -/
import Derived.Test.YtbholbjegfnpdaaP5
namespace Go.Proofs.Ytbholbjegfnpdaa
open Go.RowKit Go.Shelf Go.Maps
attribute [local go_sem] Oper.semAt_some
set_option linter.unusedVariables false
set_option linter.unusedSimpArgs false

set_option maxRecDepth 100000 in
set_option maxHeartbeats 4000000 in
theorem pruns_no (ops : List TOp) (cap : Nat) (ao : Option Addr) (v1 v2 : Value) (w : World) (hx : SlA w.heap.size 7 (ROp w.heap.size) w ao cap ops) (hok : (gcheck ops).2 ≠ 0) :
    Calls Try.prog 5 #[.agg #[.slice ao ops.length cap], v1, v2] w fun e w' => e = .returned (.bool true) ∧ Below w.heap.size w w' := by
  have hN := fun W hb => new_no ops cap ao W (imp_ops2 hx hb) hok
  have hCk := fun W (hb : Below w.heap.size w W) => rcheck_all ops cap ao W w.heap.size hb.size (imp_ops hx hb)
  obtain ⟨n, hn⟩ : ∃ n, n = ops.length := ⟨_, rfl⟩
  obtain ⟨⟨g1, g2⟩, hg⟩ : ∃ g, g = gcheck ops := ⟨_, rfl⟩
  rw [← hg] at hok
  rw [← hn] at hN hCk ⊢
  rw [← hg] at hCk
  dsimp only at hok hCk
  have d2 : (g2 != 0) = true := by simpa using hok
  replace hN := Lib.hid hN
  replace hCk := Lib.hid hCk
  replace hg := Lib.hid hg
  clear hn hx hok
  go_enter Try.func5, Try.ntmps5
  go_wp2_with fail
  refine (pknown_any _).mono ?_
  rintro e w1 ⟨rfl, hb1⟩
  have hA1 : Blk w1 w.heap.size #[.slice ao n cap] 24 := (Blk.new w _ _).below hb1 (by simp)
  have hbel : Below w.heap.size w w1 := ((Below.refl w.heap.size w).alloc (Nat.le_refl _) (.cells #[.slice ao n cap] 24)).trans (hb1.mono (by simp))
  clear hb1
  have cg := hA1.cellAt (i := 0) (v := .slice ao n cap) rfl
  dsimp only
  go_wp2_with fail
  refine (hN.out _ hbel).mono ?_
  rintro e w2 ⟨rfl, hb2⟩
  have hA2 := hA1.below hb2 hA1.lt
  have hbel2 := hbel.trans (hb2.mono hbel.size)
  clear cg hA1 hbel hb2
  have cg := hA2.cellAt (i := 0) (v := .slice ao n cap) rfl
  dsimp only
  go_wp2_with fail
  refine (hCk.out _ hbel2).mono ?_
  rintro e w3 ⟨rfl, hb3⟩
  have hbel3 := hbel2.trans (hb3.mono hbel2.size)
  clear cg hA2 hN hCk
  dsimp only
  go_wp2_with fail
  go_ret
  exact ⟨rfl, hbel3⟩

set_option maxRecDepth 100000 in
set_option maxHeartbeats 8000000 in
theorem pruns_ok (ops : List TOp) (cap : Nat) (ao : Option Addr) (l : List (List TCount)) (ll : Option Addr) (lcap : Nat) (ts : List TStamp) (aa : Option Addr) (acap : Nat) (w : World) (hx : SlA w.heap.size 7 (ROp w.heap.size) w ao cap ops) (hok : (gcheck ops).2 = 0) (hzi : ∀ o ∈ ops, o.fIn.length * 8 ≤ 140737488355328)
    (hl : SlA w.heap.size 1 (RSl w.heap.size 4 (RCount w.heap.size)) w ll lcap l) (hat : SlA w.heap.size 3 (RStamp w.heap.size) w aa acap ts) (hli : ∀ x ∈ l, x.length ≤ 1048576) :
    Calls Try.prog 5 #[.agg #[.slice ao ops.length cap], .slice ll l.length lcap, .slice aa ts.length acap] w fun e w' => e = .returned (.bool true) ∧ Below w.heap.size w w' := by
  have hN := fun W hb => new_ok ops ao cap W (imp_ops2 hx hb) hok hzi
  have hCk := fun W (hb : Below w.heap.size w W) => rcheck_all ops cap ao W w.heap.size hb.size (imp_ops hx hb)
  have hxW := fun W (hb : Below w.heap.size w W) => imp_ops2 hx hb
  have hllen := hl.len
  have hatlen := hat.len
  obtain ⟨n, hn⟩ : ∃ n, n = ops.length := ⟨_, rfl⟩
  obtain ⟨m, hm⟩ : ∃ m, m = l.length := ⟨_, rfl⟩
  obtain ⟨p, hp⟩ : ∃ p, p = ts.length := ⟨_, rfl⟩
  obtain ⟨g1, hg1⟩ : ∃ g1, g1 = (gcheck ops).1 := ⟨_, rfl⟩
  rw [← hn] at hN hCk ⊢
  rw [← hm] at hllen ⊢
  rw [← hp] at hatlen ⊢
  rw [hok, ← hg1] at hCk
  replace hN := Lib.hid hN
  replace hCk := Lib.hid hCk
  replace hxW := Lib.hid hxW
  replace hn := Lib.hid hn
  replace hm := Lib.hid hm
  replace hp := Lib.hid hp
  replace hli := Lib.hid hli
  replace hok := Lib.hid hok
  clear hg1 hzi
  go_enter Try.func5, Try.ntmps5
  go_wp2_with fail
  refine (pknown_any _).mono ?_
  rintro e w1 ⟨rfl, hb1⟩
  have hA1 : Blk w1 w.heap.size #[.slice ao n cap] 24 := (Blk.new w _ _).below hb1 (by simp)
  have hbel : Below w.heap.size w w1 := ((Below.refl w.heap.size w).alloc (Nat.le_refl _) (.cells #[.slice ao n cap] 24)).trans (hb1.mono (by simp))
  clear hb1
  have cg := hA1.cellAt (i := 0) (v := .slice ao n cap) rfl
  dsimp only
  go_wp2_with fail
  refine (hN.out _ hbel).mono ?_
  rintro e w2 ⟨hb2, tb, x, rfl, hT⟩
  have hA2 := hA1.below hb2 hA1.lt
  have hbel2 := hbel.trans (hb2.mono hbel.size)
  have hw1 : w.heap.size ≤ w1.heap.size := hbel.size
  clear cg hA1 hb2 hbel
  have cg := hA2.cellAt (i := 0) (v := .slice ao n cap) rfl
  dsimp only
  go_wp2_with fail
  refine (hCk.out _ hbel2).mono ?_
  rintro e w3 ⟨rfl, hb3⟩
  have hA3 := hA2.below hb3 hA2.lt
  have hT3 := hT.below hb3
  have htl := hT.blk.lt
  have hml := hT.map.lt
  have hs23 := hb3.size
  have hbel3 := hbel2.trans (hb3.mono hbel2.size)
  clear cg hA2 hN hCk hb3 hT hbel2
  have cg := hA3.cellAt (i := 0) (v := .slice ao n cap) rfl
  dsimp only
  go_upto_region 10 with fail
  refine Code.wp_world ?_
  intro w4 hw4
  obtain ⟨base, hbase⟩ : ∃ base, base = w1.heap.size := ⟨_, rfl⟩
  obtain ⟨mk, hmk⟩ : ∃ mk, mk = w3.heap.size := ⟨_, rfl⟩
  have hb34 : Below w3.heap.size w3 w4 := by rw [hw4]; exact (Below.refl _ _).alloc (Nat.le_refl _) _
  have hI0 : PrI w w4 base tb mk x ops ao cap [] none 0 0 :=
    ⟨⟨[], by rw [hbase]; exact hT3.below hb34, ⟨by simp, by simp, fun c hc => by cases hc⟩, Nat.le_refl _⟩, by rw [hw4, hmk, ← hn.out]; exact Blk.new _ _ _, SlA.nil _ _ _ _, hbel3.trans (hb34.mono hbel3.size), by rw [hmk]; omega, by rw [hbase]; exact hw1, fun a e => by cases e⟩
  rw [← hmk]
  replace hbase := Lib.hid hbase
  replace hmk := Lib.hid hmk
  clear hw4 hb34 hT3 cg hA3 hbel3 htl hml hs23 hw1
  go_wp2_with fail
  go_loopw [12] (fun x12 wr => ∃ (i : Nat) (L : List TCount) (aL : Option Addr) (cL : Nat), i ≤ m ∧ i ≤ 60 ∧ x12 = .int .i64 i ∧ PrI w wr base tb mk x ops ao cap L aL cL (i * 1048576)) (fun x12 _ => m - (intOf x12).toNat)
  case atStart => exact ⟨0, [], none, 0, Nat.zero_le _, Nat.zero_le _, rfl, by rw [Nat.zero_mul]; exact hI0⟩
  case round =>
    clear hI0
    obtain ⟨i, L, aL, cL, him, hi60, rfl, hI⟩ := hrel
    by_cases hgo : i < m ∧ i < 60
    · have d1 : decide ((i : Int) < (m : Int)) = true := by simp; omega
      have d2 : decide ((i : Int) < (60 : Int)) = true := by simp; omega
      have hil : i < l.length := by rw [← hm.out]; exact hgo.1
      have hbr := hI.bel
      have hlr := hl.imp hbr (Nat.le_refl _) (E' := RSl w.heap.size 4 (RCount w.heap.size)) (fun _ _ _ h => RSl.imp h hbr (Nat.le_refl _) (fun _ _ _ h => h.imp hbr (Nat.le_refl _)))
      obtain ⟨lb, lo, rfl, hlb, -⟩ := hl.addr (by omega)
      obtain ⟨cs0, -, hc0, la, lc, rfl, hlx0⟩ := hl.get i hil
      obtain ⟨y, hy⟩ : ∃ y, y = l[i] := ⟨_, rfl⟩
      rw [← hy] at hc0 hlx0
      have hyl : y.length ≤ 1048576 := hli.out y (by rw [hy]; exact List.getElem_mem hil)
      obtain ⟨q, hq⟩ : ∃ q, q = y.length := ⟨_, rfl⟩
      rw [← hq] at hc0
      have hce : w.cell? ⟨lb, lo + i, none⟩ = some (.slice la q lc) := by simpa using hc0 0 (by omega)
      have hcW : ∀ W, Below w.heap.size w W → W.cell? ⟨lb, lo + i, none⟩ = some (.slice la q lc) := fun W hW => (hW.cell (p := ⟨lb, lo + i, none⟩) hlb).trans hce
      have hxy : ∀ W, Below w.heap.size w W → SlA W.heap.size 4 (RCount W.heap.size) W la lc y := fun W hW => hlx0.imp hW hW.size (fun _ _ _ h => h.imp hW hW.size)
      have c0 := hcW wr hbr
      have hu1 := fun W (h : PrI w W base tb mk x ops ao cap L aL cL (i * 1048576)) => h.upd1 y la lc (hxy W h.bel) hyl (by omega)
      have hLl : L.length ≤ 67108864 := by
        obtain ⟨cs, -, h2, h3⟩ := hI.tr
        rw [h2.len]
        omega
      have hu2 := fun W N (h : PrM w W base tb mk x ops ao cap L aL cL N y) => h.upd2 la lc (hxy W h.bel) (hxW.out W h.bel) hyl hLl
      rw [← hq] at hu1 hu2
      obtain ⟨⟨ue, L2⟩, hU⟩ : ∃ u, u = updL ops L y := ⟨_, rfl⟩
      rw [← hU] at hu1 hu2
      dsimp only at hu1 hu2
      have dne : (ue != ue) = false := by simp
      replace hcW := Lib.hid hcW
      replace hu1 := Lib.hid hu1
      replace hu2 := Lib.hid hu2
      replace hU := Lib.hid hU
      replace hq := Lib.hid hq
      replace hy := Lib.hid hy
      clear hlr hc0 hlx0 hce hxy hbr
      have hin : i < m := hgo.1
      have hal : ∀ (W : World) (N : Nat) (aL' : Option Addr) (cL' : Nat), PrI w W base tb mk x ops ao cap L2 aL' cL' N → N ≤ 67108864 → ∀ most : Int, Calls Try.prog 18 #[.pointer (some ⟨tb, 0, none⟩), .pointer (some ⟨mk, 0, none⟩), .int .i64 most] W fun e w' => e = .returned (.bool true) ∧ Below W.heap.size W w' := fun W N aL' cL' h hN most => by
        obtain ⟨cs, h1, h2, h3⟩ := h.tr
        have h4 : cs.length + 1 ≤ 67108865 := by omega
        exact alike_any tb mk most ao cap L2 aL' cL' W h1 (Nat.le_trans (Nat.mul_le_mul_right 24 h4) (by decide)) h.mB (hxW.out W h.bel) h.mS h2
      have hN2 : i * 1048576 + 1048576 ≤ 67108864 := by omega
      obtain ⟨N2, hN2e⟩ : ∃ N2, N2 = i * 1048576 + 1048576 := ⟨_, rfl⟩
      rw [← hN2e] at hN2 hu1
      replace hal := Lib.hid hal
      replace hN2e := Lib.hid hN2e
      have hId := hI.below (Below.drew (Below.refl _ _))
      have him60 : i < 60 := hgo.2
      clear hgo hLl hI
      go_upto_region 13 with fail
      refine wp_region_tree (fun wx => wx.cell? ⟨lb, lo + i, none⟩ = some (.slice la q lc)) 24 25 (by kernel_rfl) rfl (by kernel_rfl) (fun d _ _ _ _ h => by cases d <;> exact h) (c0) (fun opz T hOps hT hTok hHeld => ?_)
      (refine wpTree_q 0 hTok hOps (by kernel_rfl) rfl rfl ⟨?_, ?_, ?_⟩; rotate_left; (focus (intro wx hSx; (try dsimp only at hSx); go_simp; (try with_reducible rfl))); (simp only [Act.put, List.setIfInBounds_toArray, List.set_cons_zero, List.set_cons_succ]))
      (refine wpTree_q 1 hTok hOps (by kernel_rfl) rfl rfl ⟨?_, ?_, ?_⟩; rotate_left; (focus (intro wx hSx; (try dsimp only at hSx); go_simp; (try with_reducible rfl))); (simp only [Act.put, List.setIfInBounds_toArray, List.set_cons_zero, List.set_cons_succ]))
      (refine wpTree_q 2 hTok hOps (by kernel_rfl) rfl rfl ⟨?_, ?_, ?_⟩; rotate_left; (focus (intro wx hSx; (try dsimp only at hSx); go_simp; (try with_reducible rfl))); (simp only [Act.put, List.setIfInBounds_toArray, List.set_cons_zero, List.set_cons_succ]))
      (refine wpTree_q 3 hTok hOps (by kernel_rfl) rfl rfl ⟨?_, ?_, ?_⟩; rotate_left; (focus (intro wx hSx; (try dsimp only at hSx); go_simp; (try with_reducible rfl))); (simp only [Act.put, List.setIfInBounds_toArray, List.set_cons_zero, List.set_cons_succ]))
      (refine wpTree_q 4 hTok hOps (by kernel_rfl) rfl rfl ⟨?_, ?_, ?_⟩; rotate_left; (focus (intro wx hSx; (try dsimp only at hSx); go_simp; (try with_reducible rfl))); (simp only [Act.put, List.setIfInBounds_toArray, List.set_cons_zero, List.set_cons_succ]))
      (refine wpTree_q 6 hTok hOps (by kernel_rfl) rfl rfl ⟨?_, ?_, ?_⟩; rotate_left; (focus (intro wx hSx; (try dsimp only at hSx); go_simp; (try with_reducible rfl))); (simp only [Act.put, List.setIfInBounds_toArray, List.set_cons_zero, List.set_cons_succ]))
      (refine wpTree_q 7 hTok hOps (by kernel_rfl) rfl rfl ⟨?_, ?_, ?_⟩; rotate_left; (focus (intro wx hSx; (try dsimp only at hSx); go_simp; (try with_reducible rfl))); (simp only [Act.put, List.setIfInBounds_toArray, List.set_cons_zero, List.set_cons_succ]))
      (refine wpTree_q 8 hTok hOps (by kernel_rfl) rfl rfl ⟨?_, ?_, ?_⟩; rotate_left; (focus (intro wx hSx; (try dsimp only at hSx); go_simp; (try with_reducible rfl))); (simp only [Act.put, List.setIfInBounds_toArray, List.set_cons_zero, List.set_cons_succ]))
      (refine wpTree_q 9 hTok hOps (by kernel_rfl) rfl rfl ⟨?_, ?_, ?_⟩; rotate_left; (focus (intro wx hSx; (try dsimp only at hSx); go_simp; (try with_reducible rfl))); (simp only [Act.put, List.setIfInBounds_toArray, List.set_cons_zero, List.set_cons_succ]))
      (refine wpTree_q 10 hTok hOps (by kernel_rfl) rfl rfl ⟨?_, ?_, ?_⟩; rotate_left; (focus (intro wx hSx; (try dsimp only at hSx); go_simp; (try with_reducible rfl))); (simp only [Act.put, List.setIfInBounds_toArray, List.set_cons_zero, List.set_cons_succ]))
      refine wpTree_1 5 hOps (by kernel_rfl) (by decide) rfl (fun K' hK => ?_)
      go_simp
      refine (hu1.out _ hId).mono ?_
      rintro e w5 ⟨rfl, hM5⟩
      dsimp only
      refine hK.out _ _ (hcW.out _ hM5.bel) ?_
      clear hK K'
      try simp only [Act.put, List.setIfInBounds_toArray, List.set_cons_zero, List.set_cons_succ]
      refine wpTree_1 11 hOps (by kernel_rfl) (by decide) rfl (fun K' hK => ?_)
      go_simp
      refine (hu2.out _ _ hM5).mono ?_
      rintro e w6 ⟨rfl, aL2, cL2, hI6⟩
      dsimp only
      refine hK.out _ _ (hcW.out _ hI6.bel) ?_
      clear hK K'
      try simp only [Act.put, List.setIfInBounds_toArray, List.set_cons_zero, List.set_cons_succ]
      (refine wpTree_q 12 hTok hOps (by kernel_rfl) rfl rfl ⟨?_, ?_, ?_⟩; rotate_left; (focus (intro wx hSx; (try dsimp only at hSx); go_simp; (try with_reducible rfl))); (simp only [Act.put, List.setIfInBounds_toArray, List.set_cons_zero, List.set_cons_succ]))
      (refine wpTree_q 13 hTok hOps (by kernel_rfl) rfl rfl ⟨?_, ?_, ?_⟩; rotate_left; (focus (intro wx hSx; (try dsimp only at hSx); go_simp; (try with_reducible rfl))); (simp only [Act.put, List.setIfInBounds_toArray, List.set_cons_zero, List.set_cons_succ]))
      (refine wpTree_qg 14 hTok hOps (by kernel_rfl) rfl rfl ⟨?_, ?_, ?_⟩; rotate_left; (focus (intro wx hSx; (try dsimp only at hSx); go_simp; (try with_reducible rfl))); (simp only [Act.put, List.setIfInBounds_toArray, List.set_cons_zero, List.set_cons_succ]))
      (refine wpTree_qg 15 hTok hOps (by kernel_rfl) rfl rfl ⟨?_, ?_, ?_⟩; rotate_left; (focus (intro wx hSx; (try dsimp only at hSx); go_simp; (try with_reducible rfl))); (simp only [Act.put, List.setIfInBounds_toArray, List.set_cons_zero, List.set_cons_succ]))
      refine wpTree_1g 16 hOps (by kernel_rfl) (by decide) rfl rfl (fun K' hK => ?_)
      go_simp
      refine (hal.out _ _ _ _ hI6 hN2 (-1)).mono ?_
      rintro e w7 ⟨rfl, hb7⟩
      have hI7 := hI6.below hb7
      dsimp only
      refine hK.out _ _ (hcW.out _ hI7.bel) ?_
      clear hK K'
      try simp only [Act.put, List.setIfInBounds_toArray, List.set_cons_zero, List.set_cons_succ]
      (refine wpTree_qg 17 hTok hOps (by kernel_rfl) rfl rfl ⟨?_, ?_, ?_⟩; rotate_left; (focus (intro wx hSx; (try dsimp only at hSx); go_simp; (try with_reducible rfl))); (simp only [Act.put, List.setIfInBounds_toArray, List.set_cons_zero, List.set_cons_succ]))
      (refine wpTree_q 18 hTok hOps (by kernel_rfl) rfl rfl ⟨?_, ?_, ?_⟩; rotate_left; (focus (intro wx hSx; (try dsimp only at hSx); go_simp; (try with_reducible rfl))); (simp only [Act.put, List.setIfInBounds_toArray, List.set_cons_zero, List.set_cons_succ]))
      (refine wpTree_q 19 hTok hOps (by kernel_rfl) rfl rfl ⟨?_, ?_, ?_⟩; rotate_left; (focus (intro wx hSx; (try dsimp only at hSx); go_simp; (try with_reducible rfl))); (simp only [Act.put, List.setIfInBounds_toArray, List.set_cons_zero, List.set_cons_succ]))
      (refine wpTree_qg 20 hTok hOps (by kernel_rfl) rfl rfl ⟨?_, ?_, ?_⟩; rotate_left; (focus (intro wx hSx; (try dsimp only at hSx); go_simp; (try with_reducible rfl))); (simp only [Act.put, List.setIfInBounds_toArray, List.set_cons_zero, List.set_cons_succ]))
      (refine wpTree_qg 21 hTok hOps (by kernel_rfl) rfl rfl ⟨?_, ?_, ?_⟩; rotate_left; (focus (intro wx hSx; (try dsimp only at hSx); go_simp; (try with_reducible rfl))); (simp only [Act.put, List.setIfInBounds_toArray, List.set_cons_zero, List.set_cons_succ]))
      refine wpTree_1g 22 hOps (by kernel_rfl) (by decide) rfl rfl (fun K' hK => ?_)
      go_simp
      refine (hal.out _ _ _ _ hI7 hN2 2).mono ?_
      rintro e w8 ⟨rfl, hb8⟩
      have hI8 := hI7.below hb8
      dsimp only
      refine hK.out _ _ (hcW.out _ hI8.bel) ?_
      clear hK K'
      try simp only [Act.put, List.setIfInBounds_toArray, List.set_cons_zero, List.set_cons_succ]
      (refine wpTree_qg 23 hTok hOps (by kernel_rfl) rfl rfl ⟨?_, ?_, ?_⟩; rotate_left; (focus (intro wx hSx; (try dsimp only at hSx); go_simp; (try with_reducible rfl))); (simp only [Act.put, List.setIfInBounds_toArray, List.set_cons_zero, List.set_cons_succ]))
      refine wpTree_nil hOps (by kernel_rfl) ?_
      refine hT.out _ _ ?_
      simp only [List.drop_succ_cons, List.drop_zero]
      clear hOps hT hTok
      try clear hHeld
      clear hId hM5 hI6 hb7 hI7 hb8 hal hu1 hu2 hcW c0 d1 d2
      go_wp2_with fail
      have hatW := fun W (hW : Below w.heap.size w W) => hat.imp hW (Nat.le_refl _) (E' := RStamp w.heap.size) (fun _ _ _ h => RStamp.imp h hW (Nat.le_refl _))
      replace hatW := Lib.hid hatW
      go_loopw [13] (fun x13 wr => ∃ k : Nat, k ≤ p ∧ k ≤ 20 ∧ x13 = .int .i64 k ∧ PrI w wr base tb mk x ops ao cap L2 aL2 cL2 N2) (fun x13 _ => p - (intOf x13).toNat)
      case atStart => exact ⟨0, Nat.zero_le _, Nat.zero_le _, rfl, hI8⟩
      case round =>
        clear hI8
        obtain ⟨k, hkp, hk20, rfl, hI⟩ := hrel
        by_cases hgo2 : k < p ∧ k < 20
        · have hkp2 : k < p := hgo2.1
          have hk2 : k < 20 := hgo2.2
          have d1 : decide ((k : Int) < (p : Int)) = true := by simp; omega
          have d2 : decide ((k : Int) < (20 : Int)) = true := by simp; omega
          have hkl : k < ts.length := by rw [← hp.out]; exact hkp2
          obtain ⟨ab, aof, rfl, hab, -⟩ := hat.addr (by omega)
          obtain ⟨cs0, -, hc0, hst⟩ := (hatW.out wr hI.bel).get k hkl
          obtain ⟨s, hs⟩ : ∃ s, s = ts[k] := ⟨_, rfl⟩
          rw [← hs] at hst
          obtain ⟨rfl, w0, w1', w2'⟩ := hst
          have e0 : wr.cell? ⟨ab, aof + k * 3, none⟩ = some (.int .i64 s.fLoc) := by have := hc0 0 (by omega); simpa using this
          have e1 : wr.cell? ⟨ab, aof + k * 3 + 1, none⟩ = some (.int .i64 s.fT.fEpoch) := by have := hc0 1 (by omega); simpa [Nat.add_assoc] using this
          have e2 : wr.cell? ⟨ab, aof + k * 3 + 2, none⟩ = some (.int .i64 s.fT.fRound) := by have := hc0 2 (by omega); simpa [Nat.add_assoc] using this
          have f0 := Wd.cell e0 (World.lt_of_cell e0)
          have f1 := Wd.cell e1 (World.lt_of_cell e1)
          have f2 := Wd.cell e2 (World.lt_of_cell e2)
          have hwf : wfS s := ⟨w0, w1', w2'⟩
          obtain ⟨dn, hdn⟩ : ∃ dn, dn = doneC ops (aliveL L2) s := ⟨_, rfl⟩
          obtain ⟨cn, hcn⟩ : ∃ cn, cn = cntL L2 s := ⟨_, rfl⟩
          have hTd : ∀ u : Wd wr, Calls Try.prog 14 #[.pointer (some ⟨tb, 0, none⟩), .agg #[.int .i64 s.fLoc, .int .i64 s.fT.fEpoch, .int .i64 s.fT.fRound]] u.v fun e w' => e = .returned (.bool dn) ∧ Below u.v.heap.size u.v w' := fun u => by
            obtain ⟨cs, h1, h2, h3⟩ := (hI.below u.h).tr
            have h4 : cs.length + 1 ≤ 67108865 := by omega
            have := tdone_any s u.v h1 (Nat.le_trans (Nat.mul_le_mul_right 24 h4) (by decide))
            rw [← doneC_same (fun x => h2.alive h1.nodup x) s, ← hdn] at this
            exact this
          have hRd : ∀ u : Wd wr, Calls Try.prog 19 #[.pointer (some ⟨mk, 0, none⟩), .agg #[.int .i64 s.fLoc, .int .i64 s.fT.fEpoch, .int .i64 s.fT.fRound]] u.v fun e w' => e = .returned (.bool dn) ∧ Below u.v.heap.size u.v w' := fun u => by
            have hIu := hI.below u.h
            obtain ⟨cs, h1, h2, h3⟩ := hIu.tr
            have h4 : L2.length + 1 ≤ 67108865 := by rw [h2.len]; omega
            have := rdone_any mk ops ao cap L2 aL2 cL2 s u.v hIu.mB (hxW.out _ hIu.bel) hIu.mS (Nat.le_trans (Nat.mul_le_mul_right 24 h4) (by decide)) hok.out (fun a ha => by
              have h5 := (h2.alive h1.nodup a).1 ha
              unfold aliveC at h5
              obtain ⟨q, h6, rfl⟩ := List.mem_map.1 h5
              exact h1.good q (List.mem_filter.1 h6).1)
            rw [← hdn] at this
            exact this
          have hTc : ∀ u : Wd wr, Calls Try.prog 20 #[.pointer (some ⟨tb, 0, none⟩), .agg #[.int .i64 s.fLoc, .int .i64 s.fT.fEpoch, .int .i64 s.fT.fRound]] u.v fun e w' => e = .returned (.int .i64 cn) ∧ Below u.v.heap.size u.v w' := fun u => by
            obtain ⟨cs, h1, h2, h3⟩ := (hI.below u.h).tr
            have := count_any s hwf u.v h1
            rw [← h2.cnt, ← hcn] at this
            exact this
          have hRc : ∀ u : Wd wr, Calls Try.prog 21 #[.pointer (some ⟨mk, 0, none⟩), .agg #[.int .i64 s.fLoc, .int .i64 s.fT.fEpoch, .int .i64 s.fT.fRound]] u.v fun e w' => e = .returned (.int .i64 cn) ∧ Below u.v.heap.size u.v w' := fun u => by
            have hIu := hI.below u.h
            have := rcnt_any mk _ L2 aL2 cL2 s u.v hIu.mB hIu.mS
            rw [← hcn] at this
            exact this
          have b1 : (dn != dn) = false := by simp
          have b2 : (cn != cn) = false := by simp
          replace hTd := Lib.hid hTd
          replace hRd := Lib.hid hRd
          replace hTc := Lib.hid hTc
          replace hRc := Lib.hid hRc
          replace hdn := Lib.hid hdn
          replace hcn := Lib.hid hcn
          replace hs := Lib.hid hs
          clear hc0 w0 w1' w2' e0 e1 e2 hwf hgo2
          go_upto_region 18 with fail
          refine wp_region_below (by kernel_rfl) (by kernel_rfl) ?_
          repeat (go_big_quiet_step (first | (go_at_call 14; exact Calls.quiet_below (hTd.out _)) | (go_at_call 19; exact Calls.quiet_below (hRd.out _)) | (go_at_call 20; exact Calls.quiet_below (hTc.out _)) | (go_at_call 21; exact Calls.quiet_below (hRc.out _))))
          refine wpQuiet_nil ?_
          rintro _ ⟨u, rfl⟩
          have hIu := hI.below u.h
          obtain ⟨wy, hwy⟩ : ∃ wy, wy = u.v := ⟨_, rfl⟩
          rw [← hwy] at hIu ⊢
          clear hwy f0 f1 f2 hTd hRd hTc hRc hI
          go_wp2_with fail
          go_roundw
          case rel => exact ⟨k + 1, by omega, by omega, by go_num, hIu⟩
          case measure => simp [intOf]; omega
        · by_cases hkp2 : k < p
          · have d1 : decide ((k : Int) < (p : Int)) = true := by simp; omega
            have d2 : decide ((k : Int) < (20 : Int)) = false := by simp; omega
            go_wp2_with fail
            go_roundw
            case rel => exact ⟨_, _, _, _, _, _, _, _, _, _, _, _, _, _, _, _, _, _, _, _, _, _, _, _, _, _, _, _, _, _, _, _, _, _, _, _, _, _, _, _, _, _, _, _, _, _, _, _, _, _, _, _, _, _, _, _, _, _, _, _, _, _, _, _, _, _, _, _, _, _, _, _, _, _, _, _, ⟨i + 1, L2, aL2, cL2, by omega, by omega, by go_num, by rw [Nat.add_mul, Nat.one_mul, ← hN2e.out]; exact hI⟩, rfl⟩
            case measure => simp [intOf]; omega
          · have d1 : decide ((k : Int) < (p : Int)) = false := by simp; omega
            go_wp2_with fail
            go_roundw
            case rel => exact ⟨_, _, _, _, _, _, _, _, _, _, _, _, _, _, _, _, _, _, _, _, _, _, _, _, _, _, _, _, _, _, _, _, _, _, _, _, _, _, _, _, _, _, _, _, _, _, _, _, _, _, _, _, _, _, _, _, _, _, _, _, _, _, _, _, _, _, _, _, _, _, _, _, _, _, _, _, ⟨i + 1, L2, aL2, cL2, by omega, by omega, by go_num, by rw [Nat.add_mul, Nat.one_mul, ← hN2e.out]; exact hI⟩, rfl⟩
            case measure => simp [intOf]; omega
    · by_cases him2 : i < m
      · have d1 : decide ((i : Int) < (m : Int)) = true := by simp; omega
        have d2 : decide ((i : Int) < (60 : Int)) = false := by simp; omega
        have hfin := hI.bel
        go_wp2_with fail
        go_ret
        exact ⟨rfl, hfin⟩
      · have d1 : decide ((i : Int) < (m : Int)) = false := by simp; omega
        have hfin := hI.bel
        go_wp2_with fail
        go_ret
        exact ⟨rfl, hfin⟩
end Go.Proofs.Ytbholbjegfnpdaa
