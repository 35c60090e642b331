/- Progress: the walk of Update. -/
import Derived.Test.YtjmbafcpbagpdaaGreatPe
import Derived.Test.YtjmbafcpbagpdaaGreatL4
namespace Go.Proofs.YtjmbafcpbagpdaaGreat
open Go.RowKit Go.Maps
set_option linter.unusedVariables false
set_option linter.unusedSimpArgs false

/-- The tracker's own parts, as Update reads them. -/
structure UpS (w wr : World) (tb mb n cap : Nat) (ao : Option Addr) (wv : Value) (ops : List TOp) (cs : List (TStamp × Int)) : Prop where
  blk : Blk wr tb #[.slice ao n cap, wv, .map (some mb)] 105
  sl : SlA w.heap.size 7 (ROp w.heap.size) wr ao cap ops
  map : MapL Tryz.prog 59 klS wfS wr mb (entC cs)
namespace UpS
variable {w wr wr' : World} {tb mb n cap : Nat} {ao : Option Addr} {wv : Value} {ops : List TOp} {cs : List (TStamp × Int)}
theorem below (h : UpS w wr tb mb n cap ao wv ops cs) (hb : Below w.heap.size wr wr') (ht : tb < w.heap.size) (hm : mb < w.heap.size) : UpS w wr' tb mb n cap ao wv ops cs :=
  ⟨h.blk.below hb ht, imp_ops h.sl hb, h.map.below hb hm⟩
end UpS

theorem mk_map (u : World) : (Instr.makeMap 103 none).run Tryz.prog u = .ok (.map (some u.heap.size)) (u.alloc (.map #[] 0)) := rfl
attribute [local go_sem] mk_map

theorem chg_trans2 {S T : Nat → Prop} {a b c : World} (h : Chg S a b) (k : Chg T b c) (hs : ∀ i, i < a.heap.size → T i → S i) : Chg S a c :=
  ⟨k.os.trans h.os, k.tape.trans h.tape, k.output.trans h.output, Nat.le_trans h.size k.size,
    fun i hi hn => (k.block i (Nat.lt_of_lt_of_le hi h.size) (fun t => hn (hs i hi t))).trans (h.block i hi hn)⟩
theorem updBad {w w' : World} {base tb : Nat} {x : TrX} {ops : List TOp} {cs : List (TStamp × Int)} {l : List TCount} {k : Int} {mb m : Nat} (hE : updE ops cs l = k) (hm : mb = x.mb) (hk : k ≠ 0 ∧ Below w.heap.size w w') :
    Ending.returned (Value.int .i64 k) = Ending.returned (Value.int .i64 (updE ops cs l)) ∧ Chg (fun k => k = x.mb) w w' ∧
      (updE ops cs l ≠ 0 → Below w.heap.size w w') ∧
      (updE ops cs l = 0 → ∃ cs', Tr w' base tb x ops cs' ∧ (∀ s, cntC cs' s = wrap64 (cntC cs s + totC l s)) ∧ cs'.length ≤ cs.length + m) :=
  ⟨by rw [hE], (Chg.of_below hk.2).mono (fun j hj e => absurd hj (by omega)), fun _ => hk.2, fun h => absurd h (by rw [hE]; exact hk.1)⟩

set_option maxRecDepth 100000 in
set_option maxHeartbeats 4000000 in
theorem update_any (l : List TCount) (la : Option Addr) (lc : Nat) {base tb : Nat} {x : TrX} {ops : List TOp} {cs : List (TStamp × Int)} (w : World) (hT : Tr w base tb x ops cs) (hl : SlA w.heap.size 4 (RCount w.heap.size) w la lc l) (hz : l.length * 32 ≤ 140737488355328) (hzc : cs.length + l.length ≤ 70368744177664) :
    Calls Tryz.prog 27 #[.pointer (some ⟨tb, 0, none⟩), .slice la l.length lc] w fun e w' => e = .returned (.int .i64 (updE ops cs l)) ∧ Chg (fun k => k = x.mb) w w' ∧
      (updE ops cs l ≠ 0 → Below w.heap.size w w') ∧
      (updE ops cs l = 0 → ∃ cs', Tr w' base tb x ops cs' ∧ (∀ s, cntC cs' s = wrap64 (cntC cs s + totC l s)) ∧ cs'.length ≤ cs.length + l.length) := by
  obtain ⟨ao, cap, hgv, hs⟩ := hT.sla
  have hB := hT.blk
  have hM := hT.map
  have hok := hT.ok
  rw [hgv] at hB
  have hmb : x.mb < w.heap.size := hM.lt
  have htb : tb < w.heap.size := hB.lt
  generalize hwv : Value.slice (some ⟨x.hb, 0, none⟩) ops.length ops.length = wv at hB
  obtain ⟨mb, hmbe⟩ : ∃ mb, mb = x.mb := ⟨_, rfl⟩
  rw [← hmbe] at hB hM hmb
  have hgo := Good_any ops cap ao
  rw [hok] at hgo
  obtain ⟨n, hn⟩ : ∃ n, n = ops.length := ⟨_, rfl⟩
  rw [← hn] at hB hgo
  have hU : UpS w w tb mb n cap ao wv ops cs := ⟨hB, hs, hM⟩
  have hlen := hl.len
  obtain ⟨m, hm⟩ : ∃ m, m = l.length := ⟨_, rfl⟩
  rw [← hm] at hlen hz hzc ⊢
  replace hgv := Lib.hid hgv
  replace hwv := Lib.hid hwv
  replace hmbe := Lib.hid hmbe
  replace hn := Lib.hid hn
  replace hm := Lib.hid hm
  replace hT := Lib.hid hT
  replace hgo := Lib.hid hgo
  clear hB hM hs hok
  go_enter Tryz.func27, Tryz.ntmps27
  go_wp2_with fail
  go_loopw [19] (fun x19 wr => ∃ i : Nat, i ≤ m ∧ x19 = .int .i64 i ∧ Below w.heap.size w wr ∧ Hid (∀ j (h : j < l.length), j < i → okC ops l[j] = true)) (fun x19 _ => m - (intOf x19).toNat)
  case atStart => exact ⟨0, Nat.zero_le _, rfl, Below.refl _ _, Lib.hid (fun j _ h => by omega)⟩
  case round =>
    obtain ⟨i, him, rfl, hbr, hpre⟩ := hrel
    by_cases hi : i < m
    · have hix : i < l.length := by rw [← hm.out]; exact hi
      obtain ⟨b2, off2, rfl, hb2l, _⟩ := hl.addr (by omega)
      obtain ⟨c, hc⟩ : ∃ c, l[i] = c := ⟨_, rfl⟩
      obtain ⟨e0, e1, e2, e3, _⟩ := RCount.at (hl.imp hbr (Nat.le_refl _) (fun _ _ _ h => h.imp hbr (Nat.le_refl _))) hix hc
      have hcm : c ∈ l := by rw [← hc]; exact List.getElem_mem hix
      have hno : okC ops c = false → updE ops cs l = 1 := fun h => by
        unfold updE
        rw [if_pos]
        rw [List.all_eq_false]
        exact ⟨c, hcm, by rw [h]; simp⟩
      have hnext : okC ops c = true → Hid (∀ j (h : j < l.length), j < i + 1 → okC ops l[j] = true) := fun hf => Lib.hid (fun j h hj => by
        by_cases hji : j = i
        · subst hji; rw [hc]; exact hf
        · exact hpre.out j h (by omega))
      obtain ⟨⟨cl, ⟨ce, cr⟩⟩, cN⟩ := c
      dsimp only at e0 e1 e2 e3
      have hokc : okC ops ⟨⟨cl, ⟨ce, cr⟩⟩, cN⟩ = (decide (-2147483648 ≤ cN) && decide (cN ≤ 2147483648) && goodS ops cl ce cr) := rfl
      have hb2w : b2 < wr.heap.size := Nat.lt_of_lt_of_le hb2l hbr.size
      have hwr3 := hbr.size
      have hUr := hU.below hbr htb hmb
      replace hno := Lib.hid hno
      replace hnext := Lib.hid hnext
      replace hokc := Lib.hid hokc
      clear hpre hc hcm
      go_upto_region 6 with fail
      refine Code.wp_world ?_
      intro w5 hw5
      have h5 : Chg (fun _ => False) wr w5 := by rw [hw5]; exact (Chg.refl _ _).alloc _
      have hA5 : Blk w5 wr.heap.size #[.int .i64 cl, .int .i64 ce, .int .i64 cr, .int .i64 cN] 67 := by rw [hw5]; exact Blk.new _ _ _
      have hb5 : Below w.heap.size w w5 := hbr.trans (h5.below hwr3 (fun _ _ h => h))
      have hU5 := hU.below hb5 htb hmb
      obtain ⟨z, hz0⟩ : ∃ z, z = wr.heap.size := ⟨_, rfl⟩
      rw [← hz0] at hA5 ⊢
      have s0 := hA5.cellAt (i := 0) (v := .int .i64 cl) rfl
      have s1 := hA5.cellAt (i := 1) (v := .int .i64 ce) rfl
      have s2 := hA5.cellAt (i := 2) (v := .int .i64 cr) rfl
      have s3 := hA5.cellAt (i := 3) (v := .int .i64 cN) rfl
      have c0 := hU5.blk.cellAt (i := 0) (v := .slice ao n cap) rfl
      have hAl := hA5.lt
      clear hw5 h5 e0 e1 e2 e3 hUr hb2w hbr hwr3 hz0
      by_cases hn1 : cN < -2147483648
      · have d1 : decide (cN < -2147483648) = true := by simpa using hn1
        have hE := hno.out (by
          rw [hokc.out]
          have : decide (-2147483648 ≤ cN) = false := by simp; omega
          rw [this]
          rfl)
        replace hE := Lib.hid hE
        clear hnext hno hokc hn1
        refine wp_region_tree (fun wx => wx.cell? ⟨z, 3, none⟩ = some (.int .i64 cN)) 15 18 (by kernel_rfl) rfl (by kernel_rfl) (fun d _ _ _ _ h => by cases d <;> exact h) (s3) (fun opz T hOps hT hTok hHeld => ?_)
        (refine wpTree_q 0 hTok hOps (by kernel_rfl) rfl rfl ⟨?_, ?_, ?_⟩; rotate_left; (focus (intro wx hSx; (try dsimp only at hSx); go_simp; (try with_reducible rfl))); (simp only [Act.put, List.setIfInBounds_toArray, List.set_cons_zero, List.set_cons_succ]))
        (refine wpTree_q 1 hTok hOps (by kernel_rfl) rfl rfl ⟨?_, ?_, ?_⟩; rotate_left; (focus (intro wx hSx; (try dsimp only at hSx); go_simp; (try with_reducible rfl))); (simp only [Act.put, List.setIfInBounds_toArray, List.set_cons_zero, List.set_cons_succ]))
        (refine wpTree_q 2 hTok hOps (by kernel_rfl) rfl rfl ⟨?_, ?_, ?_⟩; rotate_left; (focus (intro wx hSx; (try dsimp only at hSx); go_simp; (try with_reducible rfl))); (simp only [Act.put, List.setIfInBounds_toArray, List.set_cons_zero, List.set_cons_succ]))
        (refine wpTree_q 3 hTok hOps (by kernel_rfl) rfl rfl ⟨?_, ?_, ?_⟩; rotate_left; (focus (intro wx hSx; (try dsimp only at hSx); go_simp; (try with_reducible rfl))); (simp only [Act.put, List.setIfInBounds_toArray, List.set_cons_zero, List.set_cons_succ]))
        refine wpTree_qn 4 hTok hOps (by kernel_rfl) rfl rfl ?_
        refine wpTree_qn 5 hTok hOps (by kernel_rfl) rfl rfl ?_
        refine wpTree_qn 6 hTok hOps (by kernel_rfl) rfl rfl ?_
        (refine wpTree_q 7 hTok hOps (by kernel_rfl) rfl rfl ⟨?_, ?_, ?_⟩; rotate_left; (focus (intro wx hSx; (try dsimp only at hSx); go_simp; (try with_reducible rfl))); (simp only [Act.put, List.setIfInBounds_toArray, List.set_cons_zero, List.set_cons_succ]))
        (refine wpTree_q 8 hTok hOps (by kernel_rfl) rfl rfl ⟨?_, ?_, ?_⟩; rotate_left; (focus (intro wx hSx; (try dsimp only at hSx); go_simp; (try with_reducible rfl))); (simp only [Act.put, List.setIfInBounds_toArray, List.set_cons_zero, List.set_cons_succ]))
        refine wpTree_qn 9 hTok hOps (by kernel_rfl) rfl rfl ?_
        refine wpTree_qn 10 hTok hOps (by kernel_rfl) rfl rfl ?_
        refine wpTree_qn 11 hTok hOps (by kernel_rfl) rfl rfl ?_
        refine wpTree_qn 12 hTok hOps (by kernel_rfl) rfl rfl ?_
        refine wpTree_qn 13 hTok hOps (by kernel_rfl) rfl rfl ?_
        refine wpTree_qn 14 hTok hOps (by kernel_rfl) rfl rfl ?_
        refine wpTree_nil hOps (by kernel_rfl) ?_
        refine hT.out _ _ ?_
        simp only [List.drop_succ_cons, List.drop_zero]
        have hbd : Below w.heap.size w w5.drew := hb5.drew
        go_wp2_with fail
        go_ret
        exact updBad hE.out hmbe.out ⟨by decide, hbd⟩
      · have d1 : decide (cN < -2147483648) = false := by simpa using hn1
        by_cases hn2 : 2147483648 < cN
        · have d2 : decide (2147483648 < cN) = true := by simpa using hn2
          have hE := hno.out (by
            rw [hokc.out]
            have : decide (cN ≤ 2147483648) = false := by simp; omega
            rw [this, Bool.and_false]
            rfl)
          replace hE := Lib.hid hE
          clear hnext hno hokc hn1 hn2
          refine wp_region_tree (fun wx => wx.cell? ⟨z, 3, none⟩ = some (.int .i64 cN)) 15 18 (by kernel_rfl) rfl (by kernel_rfl) (fun d _ _ _ _ h => by cases d <;> exact h) (s3) (fun opz T hOps hT hTok hHeld => ?_)
          (refine wpTree_q 0 hTok hOps (by kernel_rfl) rfl rfl ⟨?_, ?_, ?_⟩; rotate_left; (focus (intro wx hSx; (try dsimp only at hSx); go_simp; (try with_reducible rfl))); (simp only [Act.put, List.setIfInBounds_toArray, List.set_cons_zero, List.set_cons_succ]))
          (refine wpTree_q 1 hTok hOps (by kernel_rfl) rfl rfl ⟨?_, ?_, ?_⟩; rotate_left; (focus (intro wx hSx; (try dsimp only at hSx); go_simp; (try with_reducible rfl))); (simp only [Act.put, List.setIfInBounds_toArray, List.set_cons_zero, List.set_cons_succ]))
          (refine wpTree_q 2 hTok hOps (by kernel_rfl) rfl rfl ⟨?_, ?_, ?_⟩; rotate_left; (focus (intro wx hSx; (try dsimp only at hSx); go_simp; (try with_reducible rfl))); (simp only [Act.put, List.setIfInBounds_toArray, List.set_cons_zero, List.set_cons_succ]))
          (refine wpTree_q 3 hTok hOps (by kernel_rfl) rfl rfl ⟨?_, ?_, ?_⟩; rotate_left; (focus (intro wx hSx; (try dsimp only at hSx); go_simp; (try with_reducible rfl))); (simp only [Act.put, List.setIfInBounds_toArray, List.set_cons_zero, List.set_cons_succ]))
          (refine wpTree_qg 4 hTok hOps (by kernel_rfl) rfl rfl ⟨?_, ?_, ?_⟩; rotate_left; (focus (intro wx hSx; (try dsimp only at hSx); go_simp; (try with_reducible rfl))); (simp only [Act.put, List.setIfInBounds_toArray, List.set_cons_zero, List.set_cons_succ]))
          (refine wpTree_qg 5 hTok hOps (by kernel_rfl) rfl rfl ⟨?_, ?_, ?_⟩; rotate_left; (focus (intro wx hSx; (try dsimp only at hSx); go_simp; (try with_reducible rfl))); (simp only [Act.put, List.setIfInBounds_toArray, List.set_cons_zero, List.set_cons_succ]))
          (refine wpTree_qg 6 hTok hOps (by kernel_rfl) rfl rfl ⟨?_, ?_, ?_⟩; rotate_left; (focus (intro wx hSx; (try dsimp only at hSx); go_simp; (try with_reducible rfl))); (simp only [Act.put, List.setIfInBounds_toArray, List.set_cons_zero, List.set_cons_succ]))
          (refine wpTree_q 7 hTok hOps (by kernel_rfl) rfl rfl ⟨?_, ?_, ?_⟩; rotate_left; (focus (intro wx hSx; (try dsimp only at hSx); go_simp; (try with_reducible rfl))); (simp only [Act.put, List.setIfInBounds_toArray, List.set_cons_zero, List.set_cons_succ]))
          (refine wpTree_q 8 hTok hOps (by kernel_rfl) rfl rfl ⟨?_, ?_, ?_⟩; rotate_left; (focus (intro wx hSx; (try dsimp only at hSx); go_simp; (try with_reducible rfl))); (simp only [Act.put, List.setIfInBounds_toArray, List.set_cons_zero, List.set_cons_succ]))
          refine wpTree_qn 9 hTok hOps (by kernel_rfl) rfl rfl ?_
          refine wpTree_qn 10 hTok hOps (by kernel_rfl) rfl rfl ?_
          refine wpTree_qn 11 hTok hOps (by kernel_rfl) rfl rfl ?_
          refine wpTree_qn 12 hTok hOps (by kernel_rfl) rfl rfl ?_
          refine wpTree_qn 13 hTok hOps (by kernel_rfl) rfl rfl ?_
          refine wpTree_qn 14 hTok hOps (by kernel_rfl) rfl rfl ?_
          refine wpTree_nil hOps (by kernel_rfl) ?_
          refine hT.out _ _ ?_
          simp only [List.drop_succ_cons, List.drop_zero]
          have hbd : Below w.heap.size w w5.drew := hb5.drew
          go_wp2_with fail
          go_ret
          exact updBad hE.out hmbe.out ⟨by decide, hbd⟩
        · have d2 : decide (2147483648 < cN) = false := by simpa using hn2
          refine wp_region_tree (fun wx => wx.cell? ⟨tb, 0, none⟩ = some (.slice ao n cap) ∧ wx.cell? ⟨z, 0, none⟩ = some (.int .i64 cl) ∧ wx.cell? ⟨z, 1, none⟩ = some (.int .i64 ce) ∧ wx.cell? ⟨z, 2, none⟩ = some (.int .i64 cr) ∧ wx.cell? ⟨z, 3, none⟩ = some (.int .i64 cN)) 15 18 (by kernel_rfl) rfl (by kernel_rfl) (fun d _ _ _ _ h => by cases d <;> exact h) (⟨c0, s0, s1, s2, s3⟩) (fun opz T hOps hT hTok hHeld => ?_)
          (refine wpTree_q 0 hTok hOps (by kernel_rfl) rfl rfl ⟨?_, ?_, ?_⟩; rotate_left; (focus (intro wx hSx; (try dsimp only at hSx); go_simp; (try with_reducible rfl))); (simp only [Act.put, List.setIfInBounds_toArray, List.set_cons_zero, List.set_cons_succ]))
          (refine wpTree_q 1 hTok hOps (by kernel_rfl) rfl rfl ⟨?_, ?_, ?_⟩; rotate_left; (focus (intro wx hSx; (try dsimp only at hSx); go_simp; (try with_reducible rfl))); (simp only [Act.put, List.setIfInBounds_toArray, List.set_cons_zero, List.set_cons_succ]))
          (refine wpTree_q 2 hTok hOps (by kernel_rfl) rfl rfl ⟨?_, ?_, ?_⟩; rotate_left; (focus (intro wx hSx; (try dsimp only at hSx); go_simp; (try with_reducible rfl))); (simp only [Act.put, List.setIfInBounds_toArray, List.set_cons_zero, List.set_cons_succ]))
          (refine wpTree_q 3 hTok hOps (by kernel_rfl) rfl rfl ⟨?_, ?_, ?_⟩; rotate_left; (focus (intro wx hSx; (try dsimp only at hSx); go_simp; (try with_reducible rfl))); (simp only [Act.put, List.setIfInBounds_toArray, List.set_cons_zero, List.set_cons_succ]))
          (refine wpTree_qg 4 hTok hOps (by kernel_rfl) rfl rfl ⟨?_, ?_, ?_⟩; rotate_left; (focus (intro wx hSx; (try dsimp only at hSx); go_simp; (try with_reducible rfl))); (simp only [Act.put, List.setIfInBounds_toArray, List.set_cons_zero, List.set_cons_succ]))
          (refine wpTree_qg 5 hTok hOps (by kernel_rfl) rfl rfl ⟨?_, ?_, ?_⟩; rotate_left; (focus (intro wx hSx; (try dsimp only at hSx); go_simp; (try with_reducible rfl))); (simp only [Act.put, List.setIfInBounds_toArray, List.set_cons_zero, List.set_cons_succ]))
          (refine wpTree_qg 6 hTok hOps (by kernel_rfl) rfl rfl ⟨?_, ?_, ?_⟩; rotate_left; (focus (intro wx hSx; (try dsimp only at hSx); go_simp; (try with_reducible rfl))); (simp only [Act.put, List.setIfInBounds_toArray, List.set_cons_zero, List.set_cons_succ]))
          (refine wpTree_q 7 hTok hOps (by kernel_rfl) rfl rfl ⟨?_, ?_, ?_⟩; rotate_left; (focus (intro wx hSx; (try dsimp only at hSx); go_simp; (try with_reducible rfl))); (simp only [Act.put, List.setIfInBounds_toArray, List.set_cons_zero, List.set_cons_succ]))
          (refine wpTree_q 8 hTok hOps (by kernel_rfl) rfl rfl ⟨?_, ?_, ?_⟩; rotate_left; (focus (intro wx hSx; (try dsimp only at hSx); go_simp; (try with_reducible rfl))); (simp only [Act.put, List.setIfInBounds_toArray, List.set_cons_zero, List.set_cons_succ]))
          (refine wpTree_qg 9 hTok hOps (by kernel_rfl) rfl rfl ⟨?_, ?_, ?_⟩; rotate_left; (focus (intro wx hSx; (try dsimp only at hSx); go_simp; (try with_reducible rfl))); (simp only [Act.put, List.setIfInBounds_toArray, List.set_cons_zero, List.set_cons_succ]))
          (refine wpTree_qg 10 hTok hOps (by kernel_rfl) rfl rfl ⟨?_, ?_, ?_⟩; rotate_left; (focus (intro wx hSx; (try dsimp only at hSx); go_simp; (try with_reducible rfl))); (simp only [Act.put, List.setIfInBounds_toArray, List.set_cons_zero, List.set_cons_succ]))
          (refine wpTree_qg 11 hTok hOps (by kernel_rfl) rfl rfl ⟨?_, ?_, ?_⟩; rotate_left; (focus (intro wx hSx; (try dsimp only at hSx); go_simp; (try with_reducible rfl))); (simp only [Act.put, List.setIfInBounds_toArray, List.set_cons_zero, List.set_cons_succ]))
          (refine wpTree_qg 12 hTok hOps (by kernel_rfl) rfl rfl ⟨?_, ?_, ?_⟩; rotate_left; (focus (intro wx hSx; (try dsimp only at hSx); go_simp; (try with_reducible rfl))); (simp only [Act.put, List.setIfInBounds_toArray, List.set_cons_zero, List.set_cons_succ]))
          (refine wpTree_qg 13 hTok hOps (by kernel_rfl) rfl rfl ⟨?_, ?_, ?_⟩; rotate_left; (focus (intro wx hSx; (try dsimp only at hSx); go_simp; (try with_reducible rfl))); (simp only [Act.put, List.setIfInBounds_toArray, List.set_cons_zero, List.set_cons_succ]))
          (refine wpTree_qg 14 hTok hOps (by kernel_rfl) rfl rfl ⟨?_, ?_, ?_⟩; rotate_left; (focus (intro wx hSx; (try dsimp only at hSx); go_simp; (try with_reducible rfl))); (simp only [Act.put, List.setIfInBounds_toArray, List.set_cons_zero, List.set_cons_succ]))
          refine wpTree_nil hOps (by kernel_rfl) ?_
          refine hT.out _ _ ?_
          simp only [List.drop_succ_cons, List.drop_zero]
          have hbd : Below w.heap.size w w5.drew := hb5.drew
          have hUd := hU.below hbd htb hmb
          clear hHeld hTok hOps hT
          go_wp2_with fail
          refine (hgo.out cl ce cr w.heap.size w5.drew hbd.size hUd.sl).mono ?_
          rintro e2 w6 ⟨rfl, hb6⟩
          have hb6' := hbd.trans (hb6.mono hbd.size)
          obtain ⟨gs, hgs⟩ : ∃ gs, gs = goodS ops cl ce cr := ⟨_, rfl⟩
          rw [← hgs] at hokc ⊢
          clear hgs hUd hU5 hA5 hAl s0 s1 s2 s3 c0 hb6 hbd
          dsimp only
          cases gs with
          | false =>
            have hE := hno.out (by rw [hokc.out, Bool.and_false])
            replace hE := Lib.hid hE
            clear hnext hno hokc hn1 hn2
            go_wp2_with fail
            go_ret
            exact updBad hE.out hmbe.out ⟨by decide, hb6'⟩
          | true =>
            have hst2 := hnext.out (by
              rw [hokc.out, Bool.and_true, Bool.and_eq_true, decide_eq_true_eq, decide_eq_true_eq]
              omega)
            clear hnext hno hokc hn1 hn2
            go_wp2_with fail
            go_roundw
            case rel => exact ⟨i + 1, by omega, by go_num, hb6', hst2⟩
            case measure => simp [intOf]; omega
    · obtain rfl : m = i := by omega
      have hgd : ∀ c ∈ l, okC ops c = true := fun c hc => by
        obtain ⟨j, hj, rfl⟩ := List.getElem_of_mem hc
        exact hpre.out j hj (by rw [hm.out]; exact hj)
      have hall : l.all (okC ops) = true := List.all_eq_true.2 hgd
      replace hgd := Lib.hid hgd
      replace hall := Lib.hid hall
      clear hpre hgo hi him
      go_upto_region 10 with fail
      have hN : MapL Tryz.prog 59 klS wfS (wr.alloc (.map #[] 0)) wr.heap.size (entC (nxL (l.take 0))) := MapL.made wr
      have hbn : Below w.heap.size w (wr.alloc (.map #[] 0)) := hbr.alloc hbr.size _
      have hnb : w.heap.size ≤ wr.heap.size := hbr.size
      obtain ⟨nb, hnbe⟩ : ∃ nb, nb = wr.heap.size := ⟨_, rfl⟩
      rw [← hnbe] at hN hnb ⊢
      generalize wr.alloc (.map #[] 0) = w2 at hN hbn ⊢
      clear hbr hnbe wr
      have hkey : ∀ c ∈ l, wfS c.fS := fun c hc => by
        obtain ⟨j, hj, rfl⟩ := List.getElem_of_mem hc
        obtain ⟨b2, off2, rfl, _, _⟩ := hl.addr (by omega)
        obtain ⟨_, _, _, _, h1, h2, h3, _⟩ := RCount.at hl hj rfl
        exact ⟨h1, h2, h3⟩
      replace hkey := Lib.hid hkey
      go_wp2_with fail
      go_loopw [45] (fun x45 wr => ∃ i : Nat, i ≤ m ∧ x45 = .int .i64 i ∧ Below w.heap.size w wr ∧ MapL Tryz.prog 59 klS wfS wr nb (entC (nxL (l.take i)))) (fun x45 _ => m - (intOf x45).toNat)
      case atStart => exact ⟨0, Nat.zero_le _, rfl, hbn, hN⟩
      case round =>
        clear hN hbn
        obtain ⟨i, him, rfl, hbr, hN⟩ := hrel
        by_cases hi : i < m
        · have hix : i < l.length := by rw [← hm.out]; exact hi
          obtain ⟨b2, off2, rfl, hb2l, _⟩ := hl.addr (by omega)
          obtain ⟨c, hc⟩ : ∃ c, l[i] = c := ⟨_, rfl⟩
          obtain ⟨e0, e1, e2, e3, _⟩ := RCount.at (hl.imp hbr (Nat.le_refl _) (fun _ _ _ h => h.imp hbr (Nat.le_refl _))) hix hc
          have hcw := hkey.out c (by rw [← hc]; exact List.getElem_mem hix)
          have hsn : nxL (l.take (i + 1)) = nxC (nxL (l.take i)) c := by rw [take_snoc hix, nxL_snoc, hc]
          have hnl := nxL_len l i (by omega)
          generalize nxL (l.take i) = na at hN hsn hnl
          obtain ⟨⟨cl, ⟨ce, cr⟩⟩, cN⟩ := c
          dsimp only at e0 e1 e2 e3 hcw
          have hb2w : b2 < wr.heap.size := Nat.lt_of_lt_of_le hb2l hbr.size
          have hwr3 := hbr.size
          replace hsn := Lib.hid hsn
          clear hc
          go_upto_region 13 with fail
          refine Code.wp_world ?_
          intro w5 hw5
          have h5 : Chg (fun _ => False) wr w5 := by rw [hw5]; exact (Chg.refl _ _).alloc _
          have hA5 : Blk w5 wr.heap.size #[.int .i64 cl, .int .i64 ce, .int .i64 cr, .int .i64 cN] 67 := by rw [hw5]; exact Blk.new _ _ _
          have hb5 : Below w.heap.size w w5 := hbr.trans (h5.below hwr3 (fun _ _ h => h))
          have hN5 := hN.chg h5 (fun h => h)
          obtain ⟨z, hz0⟩ : ∃ z, z = wr.heap.size := ⟨_, rfl⟩
          rw [← hz0] at hA5 ⊢
          have s0 := hA5.cellAt (i := 0) (v := .int .i64 cl) rfl
          have s1 := hA5.cellAt (i := 1) (v := .int .i64 ce) rfl
          have s2 := hA5.cellAt (i := 2) (v := .int .i64 cr) rfl
          have s3 := hA5.cellAt (i := 3) (v := .int .i64 cN) rfl
          clear hw5 h5 e0 e1 e2 e3 hb2w hbr hwr3 hz0 hN
          have hNd : MapL Tryz.prog 59 klS wfS w5.drew nb (entC na) := hN5.chg ((Chg.refl (fun _ => False) w5).drew) (fun h => h)
          have hlk := hNd.look keyS Tryz.underlying103 (zeroInt _) hcw false
          simp only [Bool.false_eq_true, if_false, cnt_ent] at hlk
          obtain ⟨st, w6, he1, he2, hN6, he3⟩ := hNd.entryV keyS Tryz.underlying103 (fun u => zeroInt u) (by unfold maxLen; unfold entC; rw [List.length_map]; omega) hcw
          have hlk6 := hN6.look keyS Tryz.underlying103 (zeroInt _) hcw false
          rw [cnt_ent] at he1 hN6 hlk6
          simp only [Bool.false_eq_true, if_false, getE_setE, Option.getD_some] at hlk6
          obtain ⟨old, hold⟩ : ∃ o, o = cntC na ⟨cl, ⟨ce, cr⟩⟩ := ⟨_, rfl⟩
          rw [← hold] at hlk he1 hlk6
          obtain ⟨w7, he4, hN7, hc7⟩ := he3 (.int .i64 (wrap64 (old + cN)))
          have hN8 : MapL Tryz.prog 59 klS wfS w7 nb (entC (nxL (l.take (i + 1)))) := by
            rw [hsn.out]
            unfold nxC
            rw [entC_set]
            dsimp only
            rw [← hold]
            exact hN7
          have hb8 : Below w.heap.size w w7 := hb5.drew.trans (hc7.below (Nat.le_trans hb5.size (Nat.le_refl _)) (fun j _ e => by omega))
          have hznb : ¬ z = nb := fun e => hNd.ne_blk hA5.drew e.symm
          have t0 := (he2.cell (World.lt_of_cell s0) hznb).trans s0
          have t1 := (he2.cell (World.lt_of_cell s1) hznb).trans s1
          have t2 := (he2.cell (World.lt_of_cell s2) hznb).trans s2
          have t3 := (he2.cell (World.lt_of_cell s3) hznb).trans s3
          generalize goInt st = g at he1 he4
          unfold mkS at hlk he1 hlk6
          dsimp only at hlk he1 hlk6
          clear hsn hold he2 he3 hN7 hc7 hN6 hznb
          refine wp_region_tree (fun wx => wx.cell? ⟨z, 0, none⟩ = some (.int .i64 cl) ∧ wx.cell? ⟨z, 1, none⟩ = some (.int .i64 ce) ∧ wx.cell? ⟨z, 2, none⟩ = some (.int .i64 cr) ∧ wx.cell? ⟨z, 3, none⟩ = some (.int .i64 cN)) 9 10 (by kernel_rfl) rfl (by kernel_rfl) (fun d _ _ _ _ h => by cases d <;> exact h) (⟨s0, s1, s2, s3⟩) (fun opz T hOps hT hTok hHeld => ?_)
          (refine wpTree_q 0 hTok hOps (by kernel_rfl) rfl rfl ⟨?_, ?_, ?_⟩; rotate_left; (focus (intro wx hSx; (try dsimp only at hSx); go_simp; (try with_reducible rfl))); (simp only [Act.put, List.setIfInBounds_toArray, List.set_cons_zero, List.set_cons_succ]))
          (refine wpTree_q 1 hTok hOps (by kernel_rfl) rfl rfl ⟨?_, ?_, ?_⟩; rotate_left; (focus (intro wx hSx; (try dsimp only at hSx); go_simp; (try with_reducible rfl))); (simp only [Act.put, List.setIfInBounds_toArray, List.set_cons_zero, List.set_cons_succ]))
          (refine wpTree_q 2 hTok hOps (by kernel_rfl) rfl rfl ⟨?_, ?_, ?_⟩; rotate_left; (focus (intro wx hSx; (try dsimp only at hSx); go_simp; (try with_reducible rfl))); (simp only [Act.put, List.setIfInBounds_toArray, List.set_cons_zero, List.set_cons_succ]))
          (refine wpTree_q 4 hTok hOps (by kernel_rfl) rfl rfl ⟨?_, ?_, ?_⟩; rotate_left; (focus (intro wx hSx; (try dsimp only at hSx); go_simp; (try with_reducible rfl))); (simp only [Act.put, List.setIfInBounds_toArray, List.set_cons_zero, List.set_cons_succ]))
          (refine wpTree_q 5 hTok hOps (by kernel_rfl) rfl rfl ⟨?_, ?_, ?_⟩; rotate_left; (focus (intro wx hSx; (try dsimp only at hSx); go_simp; (try with_reducible rfl))); (simp only [Act.put, List.setIfInBounds_toArray, List.set_cons_zero, List.set_cons_succ]))
          refine wpTree_2 3 7 hOps (by kernel_rfl) (by decide) (by decide) rfl rfl (fun K' hK => ?_) (fun K' hK => ?_)
          · go_simp
            refine hK.out _ _ ⟨s0, s1, s2, s3⟩ ?_
            clear hK K'
            try simp only [Act.put, List.setIfInBounds_toArray, List.set_cons_zero, List.set_cons_succ]
            (refine wpTree_q 6 hTok hOps (by kernel_rfl) rfl rfl ⟨?_, ?_, ?_⟩; rotate_left; (focus (intro wx hSx; (try dsimp only at hSx); go_simp; (try with_reducible rfl))); (simp only [Act.put, List.setIfInBounds_toArray, List.set_cons_zero, List.set_cons_succ]))
            refine wpTree_1 7 hOps (by kernel_rfl) (by decide) rfl (fun K' hK => ?_)
            go_simp
            refine hK.out _ _ ⟨t0, t1, t2, t3⟩ ?_
            clear hK K'
            try simp only [Act.put, List.setIfInBounds_toArray, List.set_cons_zero, List.set_cons_succ]
            (refine wpTree_q 8 hTok hOps (by kernel_rfl) rfl rfl ⟨?_, ?_, ?_⟩; rotate_left; (focus (intro wx hSx; (try dsimp only at hSx); go_simp; (try with_reducible rfl))); (simp only [Act.put, List.setIfInBounds_toArray, List.set_cons_zero, List.set_cons_succ]))
            refine wpTree_nil hOps (by kernel_rfl) ?_
            refine hT.out _ _ ?_
            simp only [List.drop_succ_cons, List.drop_zero]
            clear hHeld hTok hOps hT hlk hlk6 he1
            go_wp2_with fail
            go_roundw
            case rel => exact ⟨i + 1, by omega, by go_num, hb8, hN8⟩
            case measure => simp [intOf]; omega
          · go_simp
            refine hK.out _ _ ⟨t0, t1, t2, t3⟩ ?_
            clear hK K'
            try simp only [Act.put, List.setIfInBounds_toArray, List.set_cons_zero, List.set_cons_succ]
            (refine wpTree_q 8 hTok hOps (by kernel_rfl) rfl rfl ⟨?_, ?_, ?_⟩; rotate_left; (focus (intro wx hSx; (try dsimp only at hSx); go_simp; (try with_reducible rfl))); (simp only [Act.put, List.setIfInBounds_toArray, List.set_cons_zero, List.set_cons_succ]))
            refine wpTree_1 3 hOps (by kernel_rfl) (by decide) rfl (fun K' hK => ?_)
            go_simp
            refine hK.out _ _ ⟨t0, t1, t2, t3⟩ ?_
            clear hK K'
            try simp only [Act.put, List.setIfInBounds_toArray, List.set_cons_zero, List.set_cons_succ]
            (refine wpTree_q 6 hTok hOps (by kernel_rfl) rfl rfl ⟨?_, ?_, ?_⟩; rotate_left; (focus (intro wx hSx; (try dsimp only at hSx); go_simp; (try with_reducible rfl))); (simp only [Act.put, List.setIfInBounds_toArray, List.set_cons_zero, List.set_cons_succ]))
            refine wpTree_nil hOps (by kernel_rfl) ?_
            refine hT.out _ _ ?_
            simp only [List.drop_succ_cons, List.drop_zero]
            clear hHeld hTok hOps hT hlk hlk6 he1
            go_wp2_with fail
            go_roundw
            case rel => exact ⟨i + 1, by omega, by go_num, hb8, hN8⟩
            case measure => simp [intOf]; omega
        · obtain rfl : m = i := by omega
          rw [List.take_of_length_le (by rw [← hm.out]; exact Nat.le_refl _)] at hN
          have hE14 : (∃ p ∈ nxL l, ¬ passC cs p) → updE ops cs l = 14 := fun ⟨p, hp, hn⟩ => by
            unfold updE
            rw [hall.out, if_neg (by simp), if_neg (fun h => hn (h p hp))]
          have hE0 : (∀ p ∈ nxL l, passC cs p) → updE ops cs l = 0 := fun h => by
            unfold updE
            rw [hall.out, if_neg (by simp), if_pos h]
          have hnl : (nxL l).length ≤ m := by
            have := nxL_len l l.length (Nat.le_refl _)
            rw [List.take_of_length_le (Nat.le_refl _)] at this
            rw [hm.out]; exact this
          have hcnt : ∀ s, cntC (nxL l) s = wrap64 (totC l s) := fun s => by
            have := nxL_cnt l s l.length (Nat.le_refl _)
            rw [List.take_of_length_le (Nat.le_refl _)] at this
            exact this
          have hkg : ∀ p ∈ nxL l, goodS ops p.1.fLoc p.1.fT.fEpoch p.1.fT.fRound = true := fun p hp => by
            obtain ⟨c, hc, e⟩ := nxL_keys l l.length (Nat.le_refl _) p (by rw [List.take_of_length_le (Nat.le_refl _)]; exact hp)
            have h1 := hgd.out c hc
            unfold okC at h1
            rw [Bool.and_eq_true] at h1
            rw [← e]
            exact h1.2
          generalize nxL l = nx at hN hE14 hE0 hnl hcnt hkg
          replace hE14 := Lib.hid hE14
          replace hE0 := Lib.hid hE0
          replace hcnt := Lib.hid hcnt
          replace hkg := Lib.hid hkg
          clear hi him hl hkey hgd hall
          go_wp2_with (at_range; refine wpList_rangeL rfl _ _ rfl keyS hN Tryz.underlying103 rfl ?next)
          case next =>
          intro w3 hr hb1 hs1
          obtain ⟨rb, hrb⟩ : ∃ rb, rb = wr.heap.size := ⟨_, rfl⟩
          have hb3 : Below w.heap.size w w3 := hbr.trans (hb1.mono hbr.size)
          have hnrb : w.heap.size ≤ rb := by rw [hrb]; exact hbr.size
          rw [← hrb] at hr hs1 ⊢
          have hrl : rb < w3.heap.size := by omega
          clear hb1 hs1 hrb hN hbr wr
          go_wp2_with fail
          go_loopw [12] (fun _ wr => ∃ rest, RangeL Tryz.prog 59 klS wfS wr nb rb (entC nx) rest ∧ Below w.heap.size w wr ∧ rb < wr.heap.size ∧ Hid (∀ p ∈ nx, encC p ∈ rest ∨ passC cs p)) (fun _ wr => wr.rangeLeft nb rb)
          case atStart => exact ⟨_, hr, hb3, hrl, Lib.hid (fun p hp => .inl (List.mem_map.2 ⟨p, hp, rfl⟩))⟩
          case round =>
            clear hr hb3 hrl
            obtain ⟨rest, hr, hbr, hrl, hps⟩ := hrel
            go_wp2_with (at_next; refine wpList_nextL rfl _ rfl keyS hr rfl ?fin ?more)
            case more =>
              intro y v w4 hym hy hr4 hlt4 hch4 hsz4 hen
              obtain ⟨k, hkm, rfl⟩ := ent_mem (hr.sub _ hym)
              have hnext : passC cs (y, k) → Hid (∀ p ∈ nx, encC p ∈ delE rest y ∨ passC cs p) := fun hp => Lib.hid (fun q hq => by
                rcases hps.out q hq with h1 | h1
                · by_cases hqy : q.1 = y
                  · have h2 : (q.1, Value.int .i64 q.2) ∈ entC nx := List.mem_map.2 ⟨q, hq, rfl⟩
                    have h3 : (y, Value.int .i64 k) ∈ entC nx := hr.sub _ hym
                    have h4 := getE_of_mem hr.nodup h2
                    have h5 := getE_of_mem hr.nodup h3
                    rw [hqy, h5] at h4
                    simp only [Option.some.injEq, Value.int.injEq, true_and] at h4
                    right
                    rw [show q = (y, k) from Prod.ext hqy h4.symm]
                    exact hp
                  · left
                    exact List.mem_filter.2 ⟨h1, by rw [Bool.not_eq_true', decide_eq_false_iff_not]; exact hqy⟩
                · exact .inr h1)
              have h14 : ¬ passC cs (y, k) → updE ops cs l = 14 := fun h => hE14.out ⟨_, hkm, h⟩
              replace hnext := Lib.hid hnext
              replace h14 := Lib.hid h14
              have hb4 : Below w.heap.size w w4 := hbr.trans (hch4.below hbr.size (fun j _ e => by omega))
              have hrl4 : rb < w4.heap.size := by omega
              clear hr hym hkm hps hch4 hbr hrl hsz4
              have hcd : passC cs (y, k) ↔ (¬ 4611686018427387904 < wrap64 (cntC cs y + k) ∧ ¬ wrap64 (cntC cs y + k) < -4611686018427387904) := by
                unfold passC
                dsimp only
                omega
              obtain ⟨old, hold⟩ : ∃ o, o = cntC cs y := ⟨_, rfl⟩
              rw [← hold] at hcd
              replace hcd := Lib.hid hcd
              have hce := cnt_ent cs y
              rw [← hold] at hce
              replace hce := Lib.hid hce
              replace hold := Lib.hid hold
              obtain ⟨yl, ⟨ye, yr⟩⟩ := y
              unfold mkS at hen ⊢
              dsimp only at hen ⊢
              go_upto_region 18 with fail
              refine Code.wp_world ?_
              intro w5 hw5
              have h5 : Chg (fun _ => False) w4 w5 := by rw [hw5]; exact (Chg.refl _ _).alloc _
              have hA5 : Blk w5 w4.heap.size #[.int .i64 yl, .int .i64 ye, .int .i64 yr] 59 := by rw [hw5]; exact Blk.new _ _ _
              have hb5 : Below w.heap.size w w5 := hb4.trans (h5.below hb4.size (fun _ _ h => h))
              have hr5 := hr4.chg h5 (fun h => h) (fun h => h)
              have hU5 := hU.below hb5 htb hmb
              have hrl5 : rb < w5.heap.size := Nat.lt_of_lt_of_le hrl4 h5.size
              obtain ⟨z, hz0⟩ : ∃ z, z = w4.heap.size := ⟨_, rfl⟩
              rw [← hz0] at hA5 ⊢
              have s0 := hA5.cellAt (i := 0) (v := .int .i64 yl) rfl
              have s1 := hA5.cellAt (i := 1) (v := .int .i64 ye) rfl
              have s2 := hA5.cellAt (i := 2) (v := .int .i64 yr) rfl
              have c2 := hU5.blk.cellAt (i := 2) (v := .map (some mb)) rfl
              have hMd : MapL Tryz.prog 59 klS wfS w5.drew mb (entC cs) := hU5.map.chg ((Chg.refl (fun _ => False) w5).drew) (fun h => h)
              have hrd := hr5.1.chg ((Chg.refl (fun _ => False) w5).drew) (fun h => h) (fun h => h)
              have hbd : Below w.heap.size w w5.drew := hb5.drew
              clear hw5 hb4 hr4 hen hz0 hrl4
              refine wp_region_tree (fun wx => wx.cell? ⟨tb, 2, none⟩ = some (.map (some mb)) ∧ wx.cell? ⟨z, 0, none⟩ = some (.int .i64 yl) ∧ wx.cell? ⟨z, 1, none⟩ = some (.int .i64 ye) ∧ wx.cell? ⟨z, 2, none⟩ = some (.int .i64 yr)) 5 7 (by kernel_rfl) rfl (by kernel_rfl) (fun d _ _ _ _ h => by cases d <;> exact h) (⟨c2, s0, s1, s2⟩) (fun opz T hOps hT hTok hHeld => ?_)
              (refine wpTree_q 0 hTok hOps (by kernel_rfl) rfl rfl ⟨?_, ?_, ?_⟩; rotate_left; (focus (intro wx hSx; (try dsimp only at hSx); go_simp; (try with_reducible rfl))); (simp only [Act.put, List.setIfInBounds_toArray, List.set_cons_zero, List.set_cons_succ]))
              (refine wpTree_q 1 hTok hOps (by kernel_rfl) rfl rfl ⟨?_, ?_, ?_⟩; rotate_left; (focus (intro wx hSx; (try dsimp only at hSx); go_simp; (try with_reducible rfl))); (simp only [Act.put, List.setIfInBounds_toArray, List.set_cons_zero, List.set_cons_succ]))
              (refine wpTree_q 2 hTok hOps (by kernel_rfl) rfl rfl ⟨?_, ?_, ?_⟩; rotate_left; (focus (intro wx hSx; (try dsimp only at hSx); go_simp; (try with_reducible rfl))); (simp only [Act.put, List.setIfInBounds_toArray, List.set_cons_zero, List.set_cons_succ]))
              (refine wpTree_q 3 hTok hOps (by kernel_rfl) rfl rfl ⟨?_, ?_, ?_⟩; rotate_left; (focus (intro wx hSx; (try dsimp only at hSx); go_simp; (try with_reducible rfl))); (simp only [Act.put, List.setIfInBounds_toArray, List.set_cons_zero, List.set_cons_succ]))
              (refine wpTree_q 4 hTok hOps (by kernel_rfl) rfl rfl ⟨?_, ?_, ?_⟩; rotate_left; (focus (intro wx hSx; (try dsimp only at hSx); go_simp; (try with_reducible rfl))); (simp only [Act.put, List.setIfInBounds_toArray, List.set_cons_zero, List.set_cons_succ]))
              refine wpTree_nil hOps (by kernel_rfl) ?_
              refine hT.out _ _ ?_
              simp only [List.drop_succ_cons, List.drop_zero]
              clear hHeld hTok hOps hT
              refine wpList_lookupL rfl _ _ _ _ rfl keyS hMd Tryz.underlying103 (zeroInt _) hy rfl rfl ?_
              simp only [Bool.false_eq_true, if_false, hce.out]
              by_cases hg1 : 4611686018427387904 < wrap64 (old + k)
              · have d1 : decide (4611686018427387904 < wrap64 (old + k)) = true := by simpa using hg1
                have hE := h14.out (fun h => (hcd.out.1 h).1 hg1)
                replace hE := Lib.hid hE
                clear hg1 h14 hnext
                go_wp2_with fail
                go_ret
                exact updBad hE.out hmbe.out ⟨by decide, hbd⟩
              · have d1 : decide (4611686018427387904 < wrap64 (old + k)) = false := by simpa using hg1
                by_cases hg2 : wrap64 (old + k) < -4611686018427387904
                · have d2 : decide (wrap64 (old + k) < -4611686018427387904) = true := by simpa using hg2
                  have hE := h14.out (fun h => (hcd.out.1 h).2 hg2)
                  replace hE := Lib.hid hE
                  clear hg1 hg2 h14 hnext
                  go_wp2_with fail
                  go_ret
                  exact updBad hE.out hmbe.out ⟨by decide, hbd⟩
                · have d2 : decide (wrap64 (old + k) < -4611686018427387904) = false := by simpa using hg2
                  have hst2 := hnext.out (hcd.out.2 ⟨hg1, hg2⟩)
                  have hlt6 : w5.drew.rangeLeft nb rb < wr.rangeLeft nb rb := by rw [hrd.2, hr5.2]; exact hlt4
                  have hrl6 : rb < w5.drew.heap.size := hrl5
                  replace hlt6 := Lib.hid hlt6
                  clear hg1 hg2 h14 hnext hlt4
                  go_wp2_with fail
                  go_roundw
                  case rel => exact ⟨_, hrd.1, hbd, hrl6, hst2⟩
                  case measure => exact hlt6.out

            case fin =>
              rintro rfl
              have hpass : ∀ p ∈ nx, passC cs p := fun p hp => by
                rcases hps.out p hp with h | h
                · cases h
                · exact h
              have hE := hE0.out hpass
              replace hE := Lib.hid hE
              replace hpass := Lib.hid hpass
              have hN := hr.owns
              have hnd : (nx.map Prod.fst).Nodup := by
                have := hr.nodup
                unfold entC at this
                rw [List.map_map] at this
                exact this
              replace hnd := Lib.hid hnd
              have hMr := (hU.below hbr htb hmb).map
              have hBr := (hU.below hbr htb hmb).blk
              clear hr hps hE14 hE0 hrl hnrb
              go_wp2_with (at_range; refine wpList_rangeL rfl _ _ rfl keyS hN Tryz.underlying103 rfl ?next)
              case next =>
              intro w6 hr hb1 hs1
              obtain ⟨rc, hrc⟩ : ∃ rc, rc = wr.heap.size := ⟨_, rfl⟩
              have hb6 : Below w.heap.size w w6 := hbr.trans (hb1.mono hbr.size)
              have hnrc : w.heap.size ≤ rc := by rw [hrc]; exact hbr.size
              have hMr6 := hMr.below hb1 hMr.lt
              have hBr6 := hBr.below hb1 hBr.lt
              rw [← hrc] at hr hs1 ⊢
              have hrl : rc < w6.heap.size := by omega
              have hc6 : Chg (fun k => k = mb) w w6 := (Chg.of_below hb6).mono (fun j hj e => absurd hj (by omega))
              have hmn : ¬ nb = mb := by omega
              have hmr : ¬ rc = mb := by omega
              have htm : ¬ tb = mb := fun e => hMr6.ne_blk hBr6 e.symm
              have hI : Hid (UpI ops cs nx cs (entC nx)) := Lib.hid (UpI.start hT.out.nz hT.out.good)
              clear hb1 hs1 hN hbr hMr hBr hb6 hrc
              go_wp2_with fail
              go_loopw [14] (fun _ wr => ∃ rest cur, RangeL Tryz.prog 59 klS wfS wr nb rc (entC nx) rest ∧ MapL Tryz.prog 59 klS wfS wr mb (entC cur) ∧ Blk wr tb #[.slice ao n cap, wv, .map (some mb)] 105 ∧ Chg (fun k => k = mb) w wr ∧ rc < wr.heap.size ∧ Hid (UpI ops cs nx cur rest)) (fun _ wr => wr.rangeLeft nb rc)
              case atStart => exact ⟨_, _, hr, hMr6, hBr6, hc6, hrl, hI⟩
              case round =>
                clear hr hMr6 hBr6 hc6 hrl hI
                obtain ⟨rest, cur, hr, hM, hB, hcg, hrl, hI⟩ := hrel
                go_wp2_with (at_next; refine wpList_nextL rfl _ rfl keyS hr rfl ?fin ?more)
                case more =>
                  intro y v w4 hym hy hr4 hlt4 hch4 hsz4 hen
                  obtain ⟨k, hkm, rfl⟩ := ent_mem (hr.sub _ hym)
                  obtain ⟨hI2, hcy⟩ := hI.out.step hr.rnodup hnd.out hym hkm (hpass.out _ hkm) (hkg.out _ hkm)
                  have hcl : cur.length ≤ cs.length + m := by have := hI.out.len; omega
                  replace hI2 := Lib.hid hI2
                  have hM4 := hM.chg hch4 (fun e => hmr e.symm)
                  have hB4 := hB.chg hch4 (fun e => by have := hB.lt; omega)
                  have hcg4 : Chg (fun k => k = mb) w w4 := chg_trans2 hcg hch4 (fun j hj e => by omega)
                  have hrl4 : rc < w4.heap.size := by omega
                  clear hr hym hkm hch4 hcg hrl hsz4 hI hM hB
                  obtain ⟨old, hold⟩ : ∃ o, o = cntC cur y := ⟨_, rfl⟩
                  have hce := cnt_ent cur y
                  rw [← hold] at hce
                  obtain ⟨yl, ⟨ye, yr⟩⟩ := y
                  have hen' := hen
                  unfold mkS at hen
                  dsimp only at hen
                  clear hen'
                  replace hold := Lib.hid hold
                  replace hce := Lib.hid hce
                  replace hcy := Lib.hid hcy
                  unfold mkS
                  dsimp only
                  go_upto_region 24 with fail
                  refine Code.wp_world ?_
                  intro w5 hw5
                  have h5 : Chg (fun _ => False) w4 w5 := by rw [hw5]; exact (Chg.refl _ _).alloc _
                  have hA5 : Blk w5 w4.heap.size #[.int .i64 yl, .int .i64 ye, .int .i64 yr] 59 := by rw [hw5]; exact Blk.new _ _ _
                  have hcg5 : Chg (fun k => k = mb) w w5 := chg_trans2 hcg4 h5 (fun _ _ h => h.elim)
                  have hr5 := hr4.chg h5 (fun h => h) (fun h => h)
                  have hM5 := hM4.chg h5 (fun h => h)
                  have hB5 := hB4.chg h5 (fun h => h)
                  have hrl5 : rc < w5.heap.size := Nat.lt_of_lt_of_le hrl4 h5.size
                  obtain ⟨z, hz0⟩ : ∃ z, z = w4.heap.size := ⟨_, rfl⟩
                  rw [← hz0] at hA5 ⊢
                  clear hw5 hr4 hen hz0 hrl4 hcg4 hM4 hB4
                  have s0 := hA5.cellAt (i := 0) (v := .int .i64 yl) rfl
                  have s1 := hA5.cellAt (i := 1) (v := .int .i64 ye) rfl
                  have s2 := hA5.cellAt (i := 2) (v := .int .i64 yr) rfl
                  have c2 := hB5.cellAt (i := 2) (v := .map (some mb)) rfl
                  have hMd : MapL Tryz.prog 59 klS wfS w5.drew mb (entC cur) := hM5.chg ((Chg.refl (fun _ => False) w5).drew) (fun h => h)
                  have hrd := hr5.1.chg ((Chg.refl (fun _ => False) w5).drew) (fun h => h) (fun h => h)
                  have hlk := hMd.look keyS Tryz.underlying103 (zeroInt _) hy false
                  obtain ⟨st, w6, he1, he2, hN6, he3⟩ := hMd.entryV keyS Tryz.underlying103 (fun u => zeroInt u) (by unfold maxLen; unfold entC; rw [List.length_map]; omega) hy
                  have hlk6 := hN6.look keyS Tryz.underlying103 (zeroInt _) hy false
                  rw [hce.out] at he1 hN6 hlk6
                  simp only [Bool.false_eq_true, if_false, getE_setE, Option.getD_some] at hlk6
                  simp only [Bool.false_eq_true, if_false, hce.out] at hlk
                  obtain ⟨w7, he4, hN7, hc7⟩ := he3 (.int .i64 (wrap64 (old + k)))
                  have hN8 : MapL Tryz.prog 59 klS wfS w7 mb (entC (setC cur ⟨yl, ⟨ye, yr⟩⟩ (wrap64 (old + k)))) := by rw [entC_set]; exact hN7
                  have hzm : ¬ z = mb := fun e => hMd.ne_blk hA5.drew e.symm
                  have t0 := (he2.cell (World.lt_of_cell s0) hzm).trans s0
                  have t1 := (he2.cell (World.lt_of_cell s1) hzm).trans s1
                  have t2 := (he2.cell (World.lt_of_cell s2) hzm).trans s2
                  have t3 := (he2.cell (World.lt_of_cell c2) htm).trans c2
                  have hA7 := hA5.drew.chg hc7 hzm
                  have hB7 := hB5.drew.chg hc7 htm
                  have hr7 := hrd.1.chg hc7 hmn hmr
                  have hcg7 : Chg (fun k => k = mb) w w7 := (hcg5.drew).trans hc7
                  have hrl7 : rc < w7.heap.size := Nat.lt_of_lt_of_le hrl5 hc7.size
                  generalize goInt st = g at he1 he4
                  unfold mkS at hlk he1 hlk6
                  dsimp only at hlk he1 hlk6
                  clear he2 he3 hN7 hc7 hN6 hzm hM5 hMd hcg5 hB5 hA5
                  refine wp_region_tree (fun wx => wx.cell? ⟨tb, 2, none⟩ = some (.map (some mb)) ∧ wx.cell? ⟨z, 0, none⟩ = some (.int .i64 yl) ∧ wx.cell? ⟨z, 1, none⟩ = some (.int .i64 ye) ∧ wx.cell? ⟨z, 2, none⟩ = some (.int .i64 yr)) 10 11 (by kernel_rfl) rfl (by kernel_rfl) (fun d _ _ _ _ h => by cases d <;> exact h) (⟨c2, s0, s1, s2⟩) (fun opz T hOps hT hTok hHeld => ?_)
                  (refine wpTree_q 0 hTok hOps (by kernel_rfl) rfl rfl ⟨?_, ?_, ?_⟩; rotate_left; (focus (intro wx hSx; (try dsimp only at hSx); go_simp; (try with_reducible rfl))); (simp only [Act.put, List.setIfInBounds_toArray, List.set_cons_zero, List.set_cons_succ]))
                  (refine wpTree_q 1 hTok hOps (by kernel_rfl) rfl rfl ⟨?_, ?_, ?_⟩; rotate_left; (focus (intro wx hSx; (try dsimp only at hSx); go_simp; (try with_reducible rfl))); (simp only [Act.put, List.setIfInBounds_toArray, List.set_cons_zero, List.set_cons_succ]))
                  (refine wpTree_q 2 hTok hOps (by kernel_rfl) rfl rfl ⟨?_, ?_, ?_⟩; rotate_left; (focus (intro wx hSx; (try dsimp only at hSx); go_simp; (try with_reducible rfl))); (simp only [Act.put, List.setIfInBounds_toArray, List.set_cons_zero, List.set_cons_succ]))
                  (refine wpTree_q 3 hTok hOps (by kernel_rfl) rfl rfl ⟨?_, ?_, ?_⟩; rotate_left; (focus (intro wx hSx; (try dsimp only at hSx); go_simp; (try with_reducible rfl))); (simp only [Act.put, List.setIfInBounds_toArray, List.set_cons_zero, List.set_cons_succ]))
                  (refine wpTree_q 4 hTok hOps (by kernel_rfl) rfl rfl ⟨?_, ?_, ?_⟩; rotate_left; (focus (intro wx hSx; (try dsimp only at hSx); go_simp; (try with_reducible rfl))); (simp only [Act.put, List.setIfInBounds_toArray, List.set_cons_zero, List.set_cons_succ]))
                  (refine wpTree_q 6 hTok hOps (by kernel_rfl) rfl rfl ⟨?_, ?_, ?_⟩; rotate_left; (focus (intro wx hSx; (try dsimp only at hSx); go_simp; (try with_reducible rfl))); (simp only [Act.put, List.setIfInBounds_toArray, List.set_cons_zero, List.set_cons_succ]))
                  refine wpTree_2 5 8 hOps (by kernel_rfl) (by decide) (by decide) rfl rfl (fun K' hK => ?_) (fun K' hK => ?_)
                  · go_simp
                    refine hK.out _ _ ⟨c2, s0, s1, s2⟩ ?_
                    clear hK K'
                    try simp only [Act.put, List.setIfInBounds_toArray, List.set_cons_zero, List.set_cons_succ]
                    (refine wpTree_q 7 hTok hOps (by kernel_rfl) rfl rfl ⟨?_, ?_, ?_⟩; rotate_left; (focus (intro wx hSx; (try dsimp only at hSx); go_simp; (try with_reducible rfl))); (simp only [Act.put, List.setIfInBounds_toArray, List.set_cons_zero, List.set_cons_succ]))
                    refine wpTree_1 8 hOps (by kernel_rfl) (by decide) rfl (fun K' hK => ?_)
                    go_simp
                    refine hK.out _ _ ⟨t3, t0, t1, t2⟩ ?_
                    clear hK K'
                    try simp only [Act.put, List.setIfInBounds_toArray, List.set_cons_zero, List.set_cons_succ]
                    (refine wpTree_q 9 hTok hOps (by kernel_rfl) rfl rfl ⟨?_, ?_, ?_⟩; rotate_left; (focus (intro wx hSx; (try dsimp only at hSx); go_simp; (try with_reducible rfl))); (simp only [Act.put, List.setIfInBounds_toArray, List.set_cons_zero, List.set_cons_succ]))
                    refine wpTree_nil hOps (by kernel_rfl) ?_
                    refine hT.out _ _ ?_
                    simp only [List.drop_succ_cons, List.drop_zero]
                    clear hHeld hTok hOps hT hlk hlk6 he1 s0 s1 s2 c2 t0 t1 t2 t3
                    go_upto_region 25 with fail
                    rw [he4]
                    clear he4
                    go_upto_region 25 with fail
                    have c2 := hB7.cellAt (i := 2) (v := .map (some mb)) rfl
                    have s0 := hA7.cellAt (i := 0) (v := .int .i64 yl) rfl
                    have s1 := hA7.cellAt (i := 1) (v := .int .i64 ye) rfl
                    have s2 := hA7.cellAt (i := 2) (v := .int .i64 yr) rfl
                    have hMd : MapL Tryz.prog 59 klS wfS w7.drew mb (entC (setC cur ⟨yl, ⟨ye, yr⟩⟩ (wrap64 (old + k)))) := hN8.chg ((Chg.refl (fun _ => False) w7).drew) (fun h => h)
                    have hne : (getE (entC (setC cur ⟨yl, ⟨ye, yr⟩⟩ (wrap64 (old + k)))) ⟨yl, ⟨ye, yr⟩⟩).getD (.int .i64 0) = .int .i64 (wrap64 (old + k)) := by rw [cnt_ent, cntC_set, if_pos rfl]
                    refine wp_region_tree (fun wx => wx.cell? ⟨tb, 2, none⟩ = some (.map (some mb)) ∧ wx.cell? ⟨z, 0, none⟩ = some (.int .i64 yl) ∧ wx.cell? ⟨z, 1, none⟩ = some (.int .i64 ye) ∧ wx.cell? ⟨z, 2, none⟩ = some (.int .i64 yr)) 5 7 (by kernel_rfl) rfl (by kernel_rfl) (fun d _ _ _ _ h => by cases d <;> exact h) (⟨c2, s0, s1, s2⟩) (fun opz T hOps hT hTok hHeld => ?_)
                    (refine wpTree_q 0 hTok hOps (by kernel_rfl) rfl rfl ⟨?_, ?_, ?_⟩; rotate_left; (focus (intro wx hSx; (try dsimp only at hSx); go_simp; (try with_reducible rfl))); (simp only [Act.put, List.setIfInBounds_toArray, List.set_cons_zero, List.set_cons_succ]))
                    (refine wpTree_q 1 hTok hOps (by kernel_rfl) rfl rfl ⟨?_, ?_, ?_⟩; rotate_left; (focus (intro wx hSx; (try dsimp only at hSx); go_simp; (try with_reducible rfl))); (simp only [Act.put, List.setIfInBounds_toArray, List.set_cons_zero, List.set_cons_succ]))
                    (refine wpTree_q 2 hTok hOps (by kernel_rfl) rfl rfl ⟨?_, ?_, ?_⟩; rotate_left; (focus (intro wx hSx; (try dsimp only at hSx); go_simp; (try with_reducible rfl))); (simp only [Act.put, List.setIfInBounds_toArray, List.set_cons_zero, List.set_cons_succ]))
                    (refine wpTree_q 3 hTok hOps (by kernel_rfl) rfl rfl ⟨?_, ?_, ?_⟩; rotate_left; (focus (intro wx hSx; (try dsimp only at hSx); go_simp; (try with_reducible rfl))); (simp only [Act.put, List.setIfInBounds_toArray, List.set_cons_zero, List.set_cons_succ]))
                    (refine wpTree_q 4 hTok hOps (by kernel_rfl) rfl rfl ⟨?_, ?_, ?_⟩; rotate_left; (focus (intro wx hSx; (try dsimp only at hSx); go_simp; (try with_reducible rfl))); (simp only [Act.put, List.setIfInBounds_toArray, List.set_cons_zero, List.set_cons_succ]))
                    refine wpTree_nil hOps (by kernel_rfl) ?_
                    refine hT.out _ _ ?_
                    simp only [List.drop_succ_cons, List.drop_zero]
                    clear hHeld hTok hOps hT
                    refine wpList_lookupL rfl _ _ _ _ rfl keyS hMd Tryz.underlying103 (zeroInt _) hy rfl rfl ?_
                    simp only [Bool.false_eq_true, if_false, hne]
                    have hadd : addC cur ⟨yl, ⟨ye, yr⟩⟩ k = if wrap64 (old + k) = 0 then delC (setC cur ⟨yl, ⟨ye, yr⟩⟩ (wrap64 (old + k))) ⟨yl, ⟨ye, yr⟩⟩ else setC cur ⟨yl, ⟨ye, yr⟩⟩ (wrap64 (old + k)) := by unfold addC; rw [← hold.out]
                    have hrd7 := hr7.1.chg ((Chg.refl (fun _ => False) w7).drew) (fun h => h) (fun h => h)
                    obtain ⟨nv, hnv⟩ : ∃ nv, nv = wrap64 (old + k) := ⟨_, rfl⟩
                    rw [← hnv] at hMd hadd hne ⊢
                    have hcgd : Chg (fun k => k = mb) w w7.drew := hcg7.drew
                    have hlt7 : w7.drew.rangeLeft nb rc < wr.rangeLeft nb rc := by rw [hrd7.2, hr7.2, hrd.2, hr5.2]; exact hlt4
                    replace hnv := Lib.hid hnv
                    replace hlt7 := Lib.hid hlt7
                    clear hN8 hne c2 s0 s1 s2 hlt4
                    by_cases h0 : nv = 0
                    · have d0 : (nv == 0) = true := by simpa using h0
                      rw [if_pos h0] at hadd
                      replace hadd := Lib.hid hadd
                      clear h0
                      go_upto_region 26 with fail
                      have hM26 := hMd.chg ((Chg.refl (fun _ => False) w7.drew).drew) (fun h => h)
                      have hr26 := hrd7.1.chg ((Chg.refl (fun _ => False) w7.drew).drew) (fun h => h) (fun h => h)
                      have c2 := hB7.cellAt (i := 2) (v := .map (some mb)) rfl
                      have s0 := hA7.cellAt (i := 0) (v := .int .i64 yl) rfl
                      have s1 := hA7.cellAt (i := 1) (v := .int .i64 ye) rfl
                      have s2 := hA7.cellAt (i := 2) (v := .int .i64 yr) rfl
                      refine wp_region_tree (fun wx => wx.cell? ⟨tb, 2, none⟩ = some (.map (some mb)) ∧ wx.cell? ⟨z, 0, none⟩ = some (.int .i64 yl) ∧ wx.cell? ⟨z, 1, none⟩ = some (.int .i64 ye) ∧ wx.cell? ⟨z, 2, none⟩ = some (.int .i64 yr)) 5 6 (by kernel_rfl) rfl (by kernel_rfl) (fun d _ _ _ _ h => by cases d <;> exact h) (⟨c2, s0, s1, s2⟩) (fun opz T hOps hT hTok hHeld => ?_)
                      (refine wpTree_q 0 hTok hOps (by kernel_rfl) rfl rfl ⟨?_, ?_, ?_⟩; rotate_left; (focus (intro wx hSx; (try dsimp only at hSx); go_simp; (try with_reducible rfl))); (simp only [Act.put, List.setIfInBounds_toArray, List.set_cons_zero, List.set_cons_succ]))
                      (refine wpTree_q 1 hTok hOps (by kernel_rfl) rfl rfl ⟨?_, ?_, ?_⟩; rotate_left; (focus (intro wx hSx; (try dsimp only at hSx); go_simp; (try with_reducible rfl))); (simp only [Act.put, List.setIfInBounds_toArray, List.set_cons_zero, List.set_cons_succ]))
                      (refine wpTree_q 2 hTok hOps (by kernel_rfl) rfl rfl ⟨?_, ?_, ?_⟩; rotate_left; (focus (intro wx hSx; (try dsimp only at hSx); go_simp; (try with_reducible rfl))); (simp only [Act.put, List.setIfInBounds_toArray, List.set_cons_zero, List.set_cons_succ]))
                      (refine wpTree_q 3 hTok hOps (by kernel_rfl) rfl rfl ⟨?_, ?_, ?_⟩; rotate_left; (focus (intro wx hSx; (try dsimp only at hSx); go_simp; (try with_reducible rfl))); (simp only [Act.put, List.setIfInBounds_toArray, List.set_cons_zero, List.set_cons_succ]))
                      (refine wpTree_q 4 hTok hOps (by kernel_rfl) rfl rfl ⟨?_, ?_, ?_⟩; rotate_left; (focus (intro wx hSx; (try dsimp only at hSx); go_simp; (try with_reducible rfl))); (simp only [Act.put, List.setIfInBounds_toArray, List.set_cons_zero, List.set_cons_succ]))
                      refine wpTree_nil hOps (by kernel_rfl) ?_
                      refine hT.out _ _ ?_
                      simp only [List.drop_succ_cons, List.drop_zero]
                      clear hHeld hTok hOps hT c2 s0 s1 s2
                      refine wpList_deleteL rfl _ _ _ rfl keyS hM26 Tryz.underlying103 hy rfl rfl ?_
                      intro w9 hM9 hc9
                      try simp only [Act.put]
                      rw [← entC_del, ← hadd.out] at hM9
                      have hr9 := hr26.1.chg hc9 hmn hmr
                      have hB9 := hB7.drew.drew.chg hc9 htm
                      have hcg9 := hcgd.drew.trans hc9
                      have hrl9 : rc < w9.heap.size := Nat.lt_of_lt_of_le hrl7 hc9.size
                      have hlt9 : w9.rangeLeft nb rc < wr.rangeLeft nb rc := by rw [hr9.2, hr26.2]; exact hlt7.out
                      replace hlt9 := Lib.hid hlt9
                      clear hM26 hr26 hMd hrd7 hc9 hcgd
                      go_wp2_with fail
                      go_roundw
                      case rel => exact ⟨_, _, hr9.1, hM9, hB9, hcg9, hrl9, hI2⟩
                      case measure => exact hlt9.out
                    · have d0 : (nv == 0) = false := by simpa using h0
                      rw [if_neg h0] at hadd
                      rw [← hadd] at hMd
                      replace hadd := Lib.hid hadd
                      clear h0
                      go_wp2_with fail
                      go_roundw
                      case rel => exact ⟨_, _, hrd7.1, hMd, hB7.drew, hcgd, hrl7, hI2⟩
                      case measure => exact hlt7.out
                  · go_simp
                    refine hK.out _ _ ⟨t3, t0, t1, t2⟩ ?_
                    clear hK K'
                    try simp only [Act.put, List.setIfInBounds_toArray, List.set_cons_zero, List.set_cons_succ]
                    (refine wpTree_q 9 hTok hOps (by kernel_rfl) rfl rfl ⟨?_, ?_, ?_⟩; rotate_left; (focus (intro wx hSx; (try dsimp only at hSx); go_simp; (try with_reducible rfl))); (simp only [Act.put, List.setIfInBounds_toArray, List.set_cons_zero, List.set_cons_succ]))
                    refine wpTree_1 5 hOps (by kernel_rfl) (by decide) rfl (fun K' hK => ?_)
                    go_simp
                    refine hK.out _ _ ⟨t3, t0, t1, t2⟩ ?_
                    clear hK K'
                    try simp only [Act.put, List.setIfInBounds_toArray, List.set_cons_zero, List.set_cons_succ]
                    (refine wpTree_q 7 hTok hOps (by kernel_rfl) rfl rfl ⟨?_, ?_, ?_⟩; rotate_left; (focus (intro wx hSx; (try dsimp only at hSx); go_simp; (try with_reducible rfl))); (simp only [Act.put, List.setIfInBounds_toArray, List.set_cons_zero, List.set_cons_succ]))
                    refine wpTree_nil hOps (by kernel_rfl) ?_
                    refine hT.out _ _ ?_
                    simp only [List.drop_succ_cons, List.drop_zero]
                    clear hHeld hTok hOps hT hlk hlk6 he1 s0 s1 s2 c2 t0 t1 t2 t3
                    go_upto_region 25 with fail
                    rw [he4]
                    clear he4
                    go_upto_region 25 with fail
                    have c2 := hB7.cellAt (i := 2) (v := .map (some mb)) rfl
                    have s0 := hA7.cellAt (i := 0) (v := .int .i64 yl) rfl
                    have s1 := hA7.cellAt (i := 1) (v := .int .i64 ye) rfl
                    have s2 := hA7.cellAt (i := 2) (v := .int .i64 yr) rfl
                    have hMd : MapL Tryz.prog 59 klS wfS w7.drew mb (entC (setC cur ⟨yl, ⟨ye, yr⟩⟩ (wrap64 (old + k)))) := hN8.chg ((Chg.refl (fun _ => False) w7).drew) (fun h => h)
                    have hne : (getE (entC (setC cur ⟨yl, ⟨ye, yr⟩⟩ (wrap64 (old + k)))) ⟨yl, ⟨ye, yr⟩⟩).getD (.int .i64 0) = .int .i64 (wrap64 (old + k)) := by rw [cnt_ent, cntC_set, if_pos rfl]
                    refine wp_region_tree (fun wx => wx.cell? ⟨tb, 2, none⟩ = some (.map (some mb)) ∧ wx.cell? ⟨z, 0, none⟩ = some (.int .i64 yl) ∧ wx.cell? ⟨z, 1, none⟩ = some (.int .i64 ye) ∧ wx.cell? ⟨z, 2, none⟩ = some (.int .i64 yr)) 5 7 (by kernel_rfl) rfl (by kernel_rfl) (fun d _ _ _ _ h => by cases d <;> exact h) (⟨c2, s0, s1, s2⟩) (fun opz T hOps hT hTok hHeld => ?_)
                    (refine wpTree_q 0 hTok hOps (by kernel_rfl) rfl rfl ⟨?_, ?_, ?_⟩; rotate_left; (focus (intro wx hSx; (try dsimp only at hSx); go_simp; (try with_reducible rfl))); (simp only [Act.put, List.setIfInBounds_toArray, List.set_cons_zero, List.set_cons_succ]))
                    (refine wpTree_q 1 hTok hOps (by kernel_rfl) rfl rfl ⟨?_, ?_, ?_⟩; rotate_left; (focus (intro wx hSx; (try dsimp only at hSx); go_simp; (try with_reducible rfl))); (simp only [Act.put, List.setIfInBounds_toArray, List.set_cons_zero, List.set_cons_succ]))
                    (refine wpTree_q 2 hTok hOps (by kernel_rfl) rfl rfl ⟨?_, ?_, ?_⟩; rotate_left; (focus (intro wx hSx; (try dsimp only at hSx); go_simp; (try with_reducible rfl))); (simp only [Act.put, List.setIfInBounds_toArray, List.set_cons_zero, List.set_cons_succ]))
                    (refine wpTree_q 3 hTok hOps (by kernel_rfl) rfl rfl ⟨?_, ?_, ?_⟩; rotate_left; (focus (intro wx hSx; (try dsimp only at hSx); go_simp; (try with_reducible rfl))); (simp only [Act.put, List.setIfInBounds_toArray, List.set_cons_zero, List.set_cons_succ]))
                    (refine wpTree_q 4 hTok hOps (by kernel_rfl) rfl rfl ⟨?_, ?_, ?_⟩; rotate_left; (focus (intro wx hSx; (try dsimp only at hSx); go_simp; (try with_reducible rfl))); (simp only [Act.put, List.setIfInBounds_toArray, List.set_cons_zero, List.set_cons_succ]))
                    refine wpTree_nil hOps (by kernel_rfl) ?_
                    refine hT.out _ _ ?_
                    simp only [List.drop_succ_cons, List.drop_zero]
                    clear hHeld hTok hOps hT
                    refine wpList_lookupL rfl _ _ _ _ rfl keyS hMd Tryz.underlying103 (zeroInt _) hy rfl rfl ?_
                    simp only [Bool.false_eq_true, if_false, hne]
                    have hadd : addC cur ⟨yl, ⟨ye, yr⟩⟩ k = if wrap64 (old + k) = 0 then delC (setC cur ⟨yl, ⟨ye, yr⟩⟩ (wrap64 (old + k))) ⟨yl, ⟨ye, yr⟩⟩ else setC cur ⟨yl, ⟨ye, yr⟩⟩ (wrap64 (old + k)) := by unfold addC; rw [← hold.out]
                    have hrd7 := hr7.1.chg ((Chg.refl (fun _ => False) w7).drew) (fun h => h) (fun h => h)
                    obtain ⟨nv, hnv⟩ : ∃ nv, nv = wrap64 (old + k) := ⟨_, rfl⟩
                    rw [← hnv] at hMd hadd hne ⊢
                    have hcgd : Chg (fun k => k = mb) w w7.drew := hcg7.drew
                    have hlt7 : w7.drew.rangeLeft nb rc < wr.rangeLeft nb rc := by rw [hrd7.2, hr7.2, hrd.2, hr5.2]; exact hlt4
                    replace hnv := Lib.hid hnv
                    replace hlt7 := Lib.hid hlt7
                    clear hN8 hne c2 s0 s1 s2 hlt4
                    by_cases h0 : nv = 0
                    · have d0 : (nv == 0) = true := by simpa using h0
                      rw [if_pos h0] at hadd
                      replace hadd := Lib.hid hadd
                      clear h0
                      go_upto_region 26 with fail
                      have hM26 := hMd.chg ((Chg.refl (fun _ => False) w7.drew).drew) (fun h => h)
                      have hr26 := hrd7.1.chg ((Chg.refl (fun _ => False) w7.drew).drew) (fun h => h) (fun h => h)
                      have c2 := hB7.cellAt (i := 2) (v := .map (some mb)) rfl
                      have s0 := hA7.cellAt (i := 0) (v := .int .i64 yl) rfl
                      have s1 := hA7.cellAt (i := 1) (v := .int .i64 ye) rfl
                      have s2 := hA7.cellAt (i := 2) (v := .int .i64 yr) rfl
                      refine wp_region_tree (fun wx => wx.cell? ⟨tb, 2, none⟩ = some (.map (some mb)) ∧ wx.cell? ⟨z, 0, none⟩ = some (.int .i64 yl) ∧ wx.cell? ⟨z, 1, none⟩ = some (.int .i64 ye) ∧ wx.cell? ⟨z, 2, none⟩ = some (.int .i64 yr)) 5 6 (by kernel_rfl) rfl (by kernel_rfl) (fun d _ _ _ _ h => by cases d <;> exact h) (⟨c2, s0, s1, s2⟩) (fun opz T hOps hT hTok hHeld => ?_)
                      (refine wpTree_q 0 hTok hOps (by kernel_rfl) rfl rfl ⟨?_, ?_, ?_⟩; rotate_left; (focus (intro wx hSx; (try dsimp only at hSx); go_simp; (try with_reducible rfl))); (simp only [Act.put, List.setIfInBounds_toArray, List.set_cons_zero, List.set_cons_succ]))
                      (refine wpTree_q 1 hTok hOps (by kernel_rfl) rfl rfl ⟨?_, ?_, ?_⟩; rotate_left; (focus (intro wx hSx; (try dsimp only at hSx); go_simp; (try with_reducible rfl))); (simp only [Act.put, List.setIfInBounds_toArray, List.set_cons_zero, List.set_cons_succ]))
                      (refine wpTree_q 2 hTok hOps (by kernel_rfl) rfl rfl ⟨?_, ?_, ?_⟩; rotate_left; (focus (intro wx hSx; (try dsimp only at hSx); go_simp; (try with_reducible rfl))); (simp only [Act.put, List.setIfInBounds_toArray, List.set_cons_zero, List.set_cons_succ]))
                      (refine wpTree_q 3 hTok hOps (by kernel_rfl) rfl rfl ⟨?_, ?_, ?_⟩; rotate_left; (focus (intro wx hSx; (try dsimp only at hSx); go_simp; (try with_reducible rfl))); (simp only [Act.put, List.setIfInBounds_toArray, List.set_cons_zero, List.set_cons_succ]))
                      (refine wpTree_q 4 hTok hOps (by kernel_rfl) rfl rfl ⟨?_, ?_, ?_⟩; rotate_left; (focus (intro wx hSx; (try dsimp only at hSx); go_simp; (try with_reducible rfl))); (simp only [Act.put, List.setIfInBounds_toArray, List.set_cons_zero, List.set_cons_succ]))
                      refine wpTree_nil hOps (by kernel_rfl) ?_
                      refine hT.out _ _ ?_
                      simp only [List.drop_succ_cons, List.drop_zero]
                      clear hHeld hTok hOps hT c2 s0 s1 s2
                      refine wpList_deleteL rfl _ _ _ rfl keyS hM26 Tryz.underlying103 hy rfl rfl ?_
                      intro w9 hM9 hc9
                      try simp only [Act.put]
                      rw [← entC_del, ← hadd.out] at hM9
                      have hr9 := hr26.1.chg hc9 hmn hmr
                      have hB9 := hB7.drew.drew.chg hc9 htm
                      have hcg9 := hcgd.drew.trans hc9
                      have hrl9 : rc < w9.heap.size := Nat.lt_of_lt_of_le hrl7 hc9.size
                      have hlt9 : w9.rangeLeft nb rc < wr.rangeLeft nb rc := by rw [hr9.2, hr26.2]; exact hlt7.out
                      replace hlt9 := Lib.hid hlt9
                      clear hM26 hr26 hMd hrd7 hc9 hcgd
                      go_wp2_with fail
                      go_roundw
                      case rel => exact ⟨_, _, hr9.1, hM9, hB9, hcg9, hrl9, hI2⟩
                      case measure => exact hlt9.out
                    · have d0 : (nv == 0) = false := by simpa using h0
                      rw [if_neg h0] at hadd
                      rw [← hadd] at hMd
                      replace hadd := Lib.hid hadd
                      clear h0
                      go_wp2_with fail
                      go_roundw
                      case rel => exact ⟨_, _, hrd7.1, hMd, hB7.drew, hcgd, hrl7, hI2⟩
                      case measure => exact hlt7.out
                case fin =>
                  rintro rfl
                  go_wp2_with fail
                  go_ret
                  refine ⟨by rw [hE.out]; rfl, by rw [← hmbe.out]; exact hcg, fun h => absurd hE.out h, fun _ => ⟨cur, hT.out.turn (by rw [← hmbe.out]; exact hcg) (by rw [← hmbe.out]; exact hM) hI.out.nz hI.out.good, fun s => ?_, ?_⟩⟩
                  · rw [hI.out.cnt s, if_neg (by simp), hcnt.out s, wrap_add']
                  · have := hI.out.len
                    simp only [List.length_nil] at this
                    omega
end Go.Proofs.YtjmbafcpbagpdaaGreat
