/- Progress: a tracker; Front, Done. -/
import Derived.Test.YtjmbafcpbagpdaaGreatPc
namespace Go.Proofs.YtjmbafcpbagpdaaGreat
open Go.RowKit Go.Maps
set_option linter.unusedVariables false
set_option linter.unusedSimpArgs false

theorem times_mem {ops : List TOp} {loc : Int} {L M : List TStamp} (h : ∀ x, x ∈ L ↔ x ∈ M) (t : TTime) : t ∈ timesS ops loc L ↔ t ∈ timesS ops loc M := by
  unfold timesS
  split
  · unfold timesF
    simp only [List.mem_flatMap]
    exact ⟨fun ⟨a, h1, h2⟩ => ⟨a, (h a).1 h1, h2⟩, fun ⟨a, h1, h2⟩ => ⟨a, (h a).2 h1, h2⟩⟩
  · exact Iff.rfl
theorem aliveC_len (cs : List (TStamp × Int)) : (aliveC cs).length ≤ cs.length := by
  unfold aliveC
  rw [List.length_map]
  exact List.length_filter_le _ _
theorem Tr.wfk {w : World} {base tb : Nat} {x : TrX} {ops : List TOp} {cs : List (TStamp × Int)} (h : Tr w base tb x ops cs) : ∀ s ∈ aliveC cs, wfS s := fun s hs => by
  unfold aliveC at hs
  obtain ⟨p, hp, rfl⟩ := List.mem_map.1 hs
  exact h.map.wf (encC p) (List.mem_map.2 ⟨p, (List.mem_filter.1 hp).1, rfl⟩)
theorem alive_sla {w : World} {base : Nat} {v : Value} {L : List TStamp} {M : List TStamp} (h : OwnL encS w base 59 3 v L) (hp : L.Perm M) (hw : ∀ s ∈ M, wfS s) : ∃ ao cap, v = .slice ao L.length cap ∧ SlA w.heap.size 3 (RStamp w.heap.size) w ao cap L :=
  h.sla encS_len (fun x hx => by have := hw x ((hp.mem_iff).1 hx); exact ⟨rfl, this.1, this.2.1, this.2.2⟩)

set_option maxRecDepth 100000 in
set_option maxHeartbeats 1000000 in
theorem tfront_any (loc : Int) {base tb : Nat} {x : TrX} {ops : List TOp} {cs : List (TStamp × Int)} (w : World) (hT : Tr w base tb x ops cs) (hz : (cs.length + 1) * 24 ≤ 140737488355328) :
    Calls Tryz.prog 38 #[.pointer (some ⟨tb, 0, none⟩), .int .i64 loc] w fun e w' => ∃ v f, e = .returned v ∧ OwnT w' w.heap.size v f ∧ IsFront (timesS ops loc (aliveC cs)) f ∧ Below w.heap.size w w' := by
  obtain ⟨ao, cap, hgv, hs⟩ := hT.sla
  have hB := hT.blk
  have hM := hT.map
  have hwf := hT.wfk
  rw [hgv] at hB
  generalize x.mb = mb at hB hM
  generalize Value.slice (some ⟨x.hb, 0, none⟩) ops.length ops.length = wv at hB
  clear hT hgv
  have hal := alive_any tb mb (.slice ao ops.length cap) wv cs
  have hfr := pfront_any ops cap ao
  obtain ⟨n, hn⟩ : ∃ n, n = ops.length := ⟨_, rfl⟩
  rw [← hn] at hB hal hfr
  replace hn := Lib.hid hn
  have hlt := hB.lt
  replace hal := Lib.hid hal
  replace hfr := Lib.hid hfr
  go_enter Tryz.func38, Tryz.ntmps38
  go_upto_region 3 with fail
  obtain ⟨z, hz0⟩ : ∃ z, z = w.heap.size := ⟨_, rfl⟩
  replace hz0 := Lib.hid hz0
  have c0 := hB.cellAt (i := 0) (v := .slice ao n cap) rfl
  refine wp_region_tree (fun wx => wx.cell? ⟨tb, 0, none⟩ = some (.slice ao n cap)) 7 9 (by kernel_rfl) rfl (by kernel_rfl) (fun d _ _ _ _ h => by cases d <;> exact h) (c0) (fun opz T hOps hT hTok hHeld => ?_)
  (refine wpTree_q 0 hTok hOps (by kernel_rfl) rfl rfl ⟨?_, ?_, ?_⟩; rotate_left; (focus (intro wx hSx; (try dsimp only at hSx); go_simp; (try with_reducible rfl))); (simp only [Act.put, List.setIfInBounds_toArray, List.set_cons_zero, List.set_cons_succ]))
  (refine wpTree_q 1 hTok hOps (by kernel_rfl) rfl rfl ⟨?_, ?_, ?_⟩; rotate_left; (focus (intro wx hSx; (try dsimp only at hSx); go_simp; (try with_reducible rfl))); (simp only [Act.put, List.setIfInBounds_toArray, List.set_cons_zero, List.set_cons_succ]))
  (refine wpTree_q 2 hTok hOps (by kernel_rfl) rfl rfl ⟨?_, ?_, ?_⟩; rotate_left; (focus (intro wx hSx; (try dsimp only at hSx); go_simp; (try with_reducible rfl))); (simp only [Act.put, List.setIfInBounds_toArray, List.set_cons_zero, List.set_cons_succ]))
  (refine wpTree_q 3 hTok hOps (by kernel_rfl) rfl rfl ⟨?_, ?_, ?_⟩; rotate_left; (focus (intro wx hSx; (try dsimp only at hSx); go_simp; (try with_reducible rfl))); (simp only [Act.put, List.setIfInBounds_toArray, List.set_cons_zero, List.set_cons_succ]))
  (refine wpTree_q 4 hTok hOps (by kernel_rfl) rfl rfl ⟨?_, ?_, ?_⟩; rotate_left; (focus (intro wx hSx; (try dsimp only at hSx); go_simp; (try with_reducible rfl))); (simp only [Act.put, List.setIfInBounds_toArray, List.set_cons_zero, List.set_cons_succ]))
  (refine wpTree_q 6 hTok hOps (by kernel_rfl) rfl rfl ⟨?_, ?_, ?_⟩; rotate_left; (focus (intro wx hSx; (try dsimp only at hSx); go_simp; (try with_reducible rfl))); (simp only [Act.put, List.setIfInBounds_toArray, List.set_cons_zero, List.set_cons_succ]))
  have hMd : MapL Tryz.prog 59 klS wfS w.drew mb (entC cs) := hM.chg ((Chg.refl (fun _ => False) w).drew) (fun h => h)
  have hbd : Below w.heap.size w w.drew := (Below.refl _ _).drew
  refine wpTree_1 5 hOps (by kernel_rfl) (by decide) rfl (fun K' hK => ?_)
  go_simp
  refine (hal.out w.drew (hB.drew) hMd hz).mono ?_
  rintro e w2 ⟨v, L, rfl, hown, hperm, hb2⟩
  obtain ⟨a2, c2, rfl, hsl⟩ := alive_sla hown hperm hwf
  have hbz := hbd.trans (hb2.mono hbd.size)
  dsimp only
  refine hK.out _ _ ((hB.below hbz hlt).cellAt rfl) ?_
  clear hK K'
  try simp only [Act.put, List.setIfInBounds_toArray, List.set_cons_zero, List.set_cons_succ]
  refine wpTree_nil hOps (by kernel_rfl) ?_
  refine hT.out _ _ ?_
  simp only [List.drop_succ_cons, List.drop_zero]
  have hll : (L.length + 1) * 16 ≤ 140737488351232 := by
    have h1 := hperm.length_eq
    have h2 := aliveC_len cs
    omega
  go_wp2_with fail
  refine (hfr.out L c2 a2 loc w2.heap.size w2 (Nat.le_refl _) (imp_ops hs hbz |>.imp (Below.refl _ _) hbz.size (fun _ _ _ h => h.imp (Below.refl _ _) hbz.size)) hsl hll).mono ?_
  rintro e w3 ⟨v, f, rfl, hv, hf, hb3⟩
  have hvb : OwnT w3 w.heap.size v f := ⟨hv.1.base_le hbz.size, hv.2⟩
  have hff : IsFront (timesS ops loc (aliveC cs)) f := IsFront.congr (times_mem (fun x => hperm.mem_iff)) hf
  have hbe : Below w.heap.size w w3 := hbz.trans (hb3.mono hbz.size)
  dsimp only
  go_wp2_with fail
  go_ret
  exact ⟨_, f, rfl, hvb, hff, hbe⟩

theorem goods_loc {ops : List TOp} {l e r : Int} (h : goodS ops l e r = true) : 0 ≤ l ∧ l < ops.length := by
  unfold goodS at h
  simp only [Bool.and_eq_true, decide_eq_true_eq] at h
  exact h.1.1

/-- Does an alive pointstamp a stand against s being done? -/
noncomputable def stands (ops : List TOp) (s a : TStamp) : Bool :=
  (decide (a.fLoc = s.fLoc) && decide (a.fT.fEpoch ≤ s.fT.fEpoch) && decide (a.fT.fRound ≤ s.fT.fRound)) ||
    (!decide (a.fLoc = s.fLoc) && rch ops a.fLoc.toNat s.fLoc.toNat && decide (a.fT.fEpoch ≤ s.fT.fEpoch))
noncomputable def doneC (ops : List TOp) (L : List TStamp) (s : TStamp) : Bool := goodS ops s.fLoc s.fT.fEpoch s.fT.fRound && !L.any (stands ops s)
theorem doneC_perm {ops : List TOp} {L M : List TStamp} (h : L.Perm M) (s : TStamp) : doneC ops L s = doneC ops M s := by
  unfold doneC
  rw [List.Perm.any_eq h]
set_option maxRecDepth 100000 in
set_option maxHeartbeats 4000000 in
theorem tdone_any (s : TStamp) {base tb : Nat} {x : TrX} {ops : List TOp} {cs : List (TStamp × Int)} (w : World) (hT : Tr w base tb x ops cs) (hz : (cs.length + 1) * 24 ≤ 140737488355328) :
    Calls Tryz.prog 20 #[.pointer (some ⟨tb, 0, none⟩), mkS s] w fun e w' => e = .returned (.bool (doneC ops (aliveC cs) s)) ∧ Below w.heap.size w w' := by
  obtain ⟨ao, cap, hgv, hs⟩ := hT.sla
  have hB := hT.blk
  have hM := hT.map
  have hwf := hT.wfk
  have hW := hT.ways
  have hok := hT.ok
  have hgood : ∀ a ∈ aliveC cs, goodS ops a.fLoc a.fT.fEpoch a.fT.fRound = true := fun a ha => by
    unfold aliveC at ha
    obtain ⟨p, hp, rfl⟩ := List.mem_map.1 ha
    exact hT.good p (List.mem_filter.1 hp).1
  rw [hgv] at hB
  generalize x.mb = mb at hB hM
  generalize x.hb = wb at hB hW
  generalize x.rs = rs at hW
  clear hT hgv
  have hal := alive_any tb mb (.slice ao ops.length cap) (.slice (some ⟨wb, 0, none⟩) ops.length ops.length) cs
  obtain ⟨l, ⟨e, r⟩⟩ := s
  have hgo := Good_any ops cap ao l e r
  rw [hok] at hgo
  obtain ⟨n, hn⟩ : ∃ n, n = ops.length := ⟨_, rfl⟩
  rw [← hn] at hB hal hgo hW
  replace hn := Lib.hid hn
  have hlt := hB.lt
  replace hal := Lib.hid hal
  replace hgo := Lib.hid hgo
  replace hgood := Lib.hid hgood
  replace hok := Lib.hid hok
  unfold mkS
  dsimp only
  go_enter Tryz.func20, Tryz.ntmps20
  go_upto_region 1 with fail
  refine Code.wp_world ?_
  intro w1 hw1
  have h01 : Below w.heap.size w w1 := by rw [hw1]; exact (Below.refl _ _).alloc (Nat.le_refl _) _
  have hS : Blk w1 w.heap.size #[.int .i64 l, .int .i64 e, .int .i64 r] 59 := by rw [hw1]; exact Blk.new _ _ _
  have hM1 := hM.below h01 hM.lt
  have hB1 := hB.below h01 hB.lt
  have hs1 := imp_ops hs h01
  have hW1 := hW.below h01 (Nat.le_refl _)
  clear hw1 hM hB hW
  obtain ⟨z, hz0⟩ : ∃ z, z = w.heap.size := ⟨_, rfl⟩
  rw [← hz0] at hS h01 hlt hs1 ⊢
  replace hz0 := Lib.hid hz0
  have c0 := hB1.cellAt (i := 0) (v := .slice ao n cap) rfl
  have q0 := hS.cellAt (i := 0) (v := .int .i64 l) rfl
  have q1 := hS.cellAt (i := 1) (v := .int .i64 e) rfl
  have q2 := hS.cellAt (i := 2) (v := .int .i64 r) rfl
  refine wp_region_tree (fun wx => wx.cell? ⟨tb, 0, none⟩ = some (.slice ao n cap) ∧ wx.cell? ⟨z, 0, none⟩ = some (.int .i64 l) ∧ wx.cell? ⟨z, 1, none⟩ = some (.int .i64 e) ∧ wx.cell? ⟨z, 2, none⟩ = some (.int .i64 r)) 8 11 (by kernel_rfl) rfl (by kernel_rfl) (fun d _ _ _ _ h => by cases d <;> exact h) (⟨c0, q0, q1, q2⟩) (fun opz T hOps hT hTok hHeld => ?_)
  (refine wpTree_q 0 hTok hOps (by kernel_rfl) rfl rfl ⟨?_, ?_, ?_⟩; rotate_left; (focus (intro wx hSx; (try dsimp only at hSx); go_simp; (try with_reducible rfl))); (simp only [Act.put, List.setIfInBounds_toArray, List.set_cons_zero, List.set_cons_succ]))
  (refine wpTree_q 1 hTok hOps (by kernel_rfl) rfl rfl ⟨?_, ?_, ?_⟩; rotate_left; (focus (intro wx hSx; (try dsimp only at hSx); go_simp; (try with_reducible rfl))); (simp only [Act.put, List.setIfInBounds_toArray, List.set_cons_zero, List.set_cons_succ]))
  (refine wpTree_q 2 hTok hOps (by kernel_rfl) rfl rfl ⟨?_, ?_, ?_⟩; rotate_left; (focus (intro wx hSx; (try dsimp only at hSx); go_simp; (try with_reducible rfl))); (simp only [Act.put, List.setIfInBounds_toArray, List.set_cons_zero, List.set_cons_succ]))
  (refine wpTree_qg 3 hTok hOps (by kernel_rfl) rfl rfl ⟨?_, ?_, ?_⟩; rotate_left; (focus (intro wx hSx; (try dsimp only at hSx); go_simp; (try with_reducible rfl))); (simp only [Act.put, List.setIfInBounds_toArray, List.set_cons_zero, List.set_cons_succ]))
  (refine wpTree_qg 4 hTok hOps (by kernel_rfl) rfl rfl ⟨?_, ?_, ?_⟩; rotate_left; (focus (intro wx hSx; (try dsimp only at hSx); go_simp; (try with_reducible rfl))); (simp only [Act.put, List.setIfInBounds_toArray, List.set_cons_zero, List.set_cons_succ]))
  (refine wpTree_qg 5 hTok hOps (by kernel_rfl) rfl rfl ⟨?_, ?_, ?_⟩; rotate_left; (focus (intro wx hSx; (try dsimp only at hSx); go_simp; (try with_reducible rfl))); (simp only [Act.put, List.setIfInBounds_toArray, List.set_cons_zero, List.set_cons_succ]))
  (refine wpTree_qg 6 hTok hOps (by kernel_rfl) rfl rfl ⟨?_, ?_, ?_⟩; rotate_left; (focus (intro wx hSx; (try dsimp only at hSx); go_simp; (try with_reducible rfl))); (simp only [Act.put, List.setIfInBounds_toArray, List.set_cons_zero, List.set_cons_succ]))
  (refine wpTree_qg 7 hTok hOps (by kernel_rfl) rfl rfl ⟨?_, ?_, ?_⟩; rotate_left; (focus (intro wx hSx; (try dsimp only at hSx); go_simp; (try with_reducible rfl))); (simp only [Act.put, List.setIfInBounds_toArray, List.set_cons_zero, List.set_cons_succ]))
  refine wpTree_nil hOps (by kernel_rfl) ?_
  refine hT.out _ _ ?_
  simp only [List.drop_succ_cons, List.drop_zero]
  have hbd : Below z w w1.drew := h01.drew
  go_wp2_with fail
  have h1d : Below w1.heap.size w1 w1.drew := (Below.refl _ _).drew
  have hzz : z ≤ w1.heap.size := Nat.le_of_lt hS.lt
  refine (hgo.out z w1.drew hzz (imp_ops hs1 (h1d.mono hzz))).mono ?_
  rintro e2 w2 ⟨rfl, hb2⟩
  have hbel2 : Below z w w2 := hbd.trans (hb2.mono hzz)
  have hb12 : Below w1.heap.size w1 w2 := h1d.trans (hb2.mono (Nat.le_refl _))
  have hS2 := hS.below hb12 hS.lt
  have hM2 := hM1.below hb12 hM1.lt
  have hB2 := hB1.below hb12 hB1.lt
  have hW2 := hW1.below hb12 (Nat.le_refl _)
  obtain ⟨gs, hgs⟩ : ∃ gs, gs = goodS ops l e r := ⟨_, rfl⟩
  rw [← hgs]
  replace hgs := Lib.hid hgs
  clear hHeld hTok hOps hT opz hS hM1 hB1 hW1 hs1 h01 hb2 hb12 c0 q0 q1 q2 hbd h1d hzz w1 hgo
  dsimp only
  cases gs with
  | false =>
    go_wp2_with fail
    go_ret
    refine ⟨?_, by rw [← hz0.out]; exact hbel2⟩
    unfold doneC
    rw [show goodS ops l e r = false from hgs.out.symm]
    rfl
  | true =>
    have hls := goods_loc hgs.out.symm
    rw [← hn.out] at hls
    obtain ⟨ls, hls1⟩ : ∃ ls : Nat, (ls : Int) = l := ⟨l.toNat, by omega⟩
    subst hls1
    have hlsn : ls < n := by omega
    clear hls
    go_wp2_with fail
    refine (hal.out w2 hB2 hM2 hz).mono ?_
    rintro e3 w3 ⟨v, L, rfl, hown, hperm, hb3⟩
    obtain ⟨a2, c2, rfl, hsl⟩ := alive_sla hown hperm hwf
    have hbel3 : Below z w w3 := hbel2.trans (hb3.mono (Nat.le_of_lt hS2.lt))
    have hS3 := hS2.below hb3 hS2.lt
    have hB3 := hB2.below hb3 hB2.lt
    have hW3 := hW2.below hb3 (Nat.le_refl _)
    have hlen := hsl.len
    obtain ⟨m, hm⟩ : ∃ m, m = L.length := ⟨_, rfl⟩
    rw [← hm] at hlen ⊢
    have hgoodL : ∀ a ∈ L, goodS ops a.fLoc a.fT.fEpoch a.fT.fRound = true := fun a ha => hgood.out a ((hperm.mem_iff).1 ha)
    have hdone : doneC ops (aliveC cs) ⟨ls, ⟨e, r⟩⟩ = doneC ops L ⟨ls, ⟨e, r⟩⟩ := (doneC_perm hperm _).symm
    have hdt : (∀ a ∈ L, stands ops ⟨ls, ⟨e, r⟩⟩ a = false) → doneC ops (aliveC cs) ⟨ls, ⟨e, r⟩⟩ = true := fun h => by
      rw [hdone]
      unfold doneC
      rw [show goodS ops ls e r = true from hgs.out.symm, Bool.true_and, Bool.not_eq_true', List.any_eq_false]
      intro a ha
      rw [h a ha]
      simp
    have hdf : ∀ a ∈ L, stands ops ⟨ls, ⟨e, r⟩⟩ a = true → doneC ops (aliveC cs) ⟨ls, ⟨e, r⟩⟩ = false := fun a ha h => by
      rw [hdone]
      unfold doneC
      rw [show goodS ops ls e r = true from hgs.out.symm, Bool.true_and, Bool.not_eq_false', List.any_eq_true]
      exact ⟨a, ha, h⟩
    replace hm := Lib.hid hm
    replace hgoodL := Lib.hid hgoodL
    replace hdt := Lib.hid hdt
    replace hdf := Lib.hid hdf
    clear hdone hown hperm hb3 hS2 hB2 hW2 hM2 hbel2 hal w2
    have hzw : z < w3.heap.size := hS3.lt
    dsimp only
    go_wp2_with fail
    go_loopw [21] (fun x21 wr => ∃ i : Nat, i ≤ m ∧ x21 = .int .i64 i ∧ Below w3.heap.size w3 wr ∧ Hid (∀ j (h : j < L.length), j < i → stands ops ⟨ls, ⟨e, r⟩⟩ L[j] = false)) (fun x21 _ => m - (intOf x21).toNat)
    case atStart => exact ⟨0, Nat.zero_le _, rfl, Below.refl _ _, Lib.hid (fun j _ h => by omega)⟩
    case round =>
      obtain ⟨i, him, rfl, hbr, hpre⟩ := hrel
      by_cases hi : i < m
      · have hix : i < L.length := by rw [← hm.out]; exact hi
        obtain ⟨b2, off2, rfl, hb2l, _⟩ := hsl.addr (by omega)
        obtain ⟨a, ha⟩ : ∃ a, L[i] = a := ⟨_, rfl⟩
        have hmem : a ∈ L := by rw [← ha]; exact List.getElem_mem hix
        have hga := goods_loc (hgoodL.out a hmem)
        rw [← hn.out] at hga
        obtain ⟨la, hla⟩ : ∃ la : Nat, (la : Int) = a.fLoc := ⟨a.fLoc.toNat, by omega⟩
        obtain ⟨e0, e1, e2, _, _, _⟩ := RStamp.at (hsl.imp hbr (Nat.le_refl _) (fun _ _ _ h => h.imp hbr (Nat.le_refl _))) hix ha
        rw [← hla] at e0 hga
        have hlan : la < n := by omega
        have hst : stands ops ⟨ls, ⟨e, r⟩⟩ a = ((decide (la = ls) && decide (a.fT.fEpoch ≤ e) && decide (a.fT.fRound ≤ r)) || (!decide (la = ls) && rch ops la ls && decide (a.fT.fEpoch ≤ e))) := by
          unfold stands
          dsimp only
          rw [← hla]
          simp only [Int.toNat_natCast, Int.natCast_inj]
        obtain ⟨ae, hae⟩ : ∃ x, x = a.fT.fEpoch := ⟨_, rfl⟩
        obtain ⟨ar, har⟩ : ∃ x, x = a.fT.fRound := ⟨_, rfl⟩
        rw [← hae] at hst e1
        rw [← har] at hst e2
        obtain ⟨rr, hrr, cw1⟩ := (hW3.below hbr (Nat.le_refl _)).hcell (Nat.zero_le la) hlan
        have cw2 := (hW3.below hbr (Nat.le_refl _)).rcell (Nat.zero_le la) hrr hlsn
        obtain ⟨vv, hvv⟩ : ∃ v, v = rch ops la ls := ⟨_, rfl⟩
        rw [← hvv] at cw2 hst
        have hSr := hS3.below hbr hS3.lt
        have hBr := hB3.below hbr hB3.lt
        have p0 := hSr.cellAt (i := 0) (v := .int .i64 ls) rfl
        have p1 := hSr.cellAt (i := 1) (v := .int .i64 e) rfl
        have p2 := hSr.cellAt (i := 2) (v := .int .i64 r) rfl
        have pw := hBr.cellAt (i := 1) (v := .slice (some ⟨wb, 0, none⟩) n n) rfl
        have hb2w : b2 < wr.heap.size := Nat.lt_of_lt_of_le hb2l hbr.size
        have hwr3 := hbr.size
        replace hst := Lib.hid hst
        clear hla hae har hvv hga hrr
        go_upto_region 6 with fail
        refine Code.wp_world ?_
        intro w5 hw5
        have h5 : Chg (fun _ => False) wr w5 := by rw [hw5]; exact (Chg.refl _ _).alloc _
        have hA5 : Blk w5 wr.heap.size #[.int .i64 la, .int .i64 ae, .int .i64 ar] 59 := by rw [hw5]; exact Blk.new _ _ _
        have hb5 : Below w3.heap.size w3 w5 := hbr.trans (h5.below hwr3 (fun _ _ h => h))
        replace p0 := (h5.cell (World.lt_of_cell p0) (fun h => h)).trans p0
        replace p1 := (h5.cell (World.lt_of_cell p1) (fun h => h)).trans p1
        replace p2 := (h5.cell (World.lt_of_cell p2) (fun h => h)).trans p2
        replace pw := (h5.cell (World.lt_of_cell pw) (fun h => h)).trans pw
        replace cw1 := (h5.cell (World.lt_of_cell cw1) (fun h => h)).trans cw1
        replace cw2 := (h5.cell (World.lt_of_cell cw2) (fun h => h)).trans cw2
        have s0 := hA5.cellAt (i := 0) (v := .int .i64 la) rfl
        have s1 := hA5.cellAt (i := 1) (v := .int .i64 ae) rfl
        have s2 := hA5.cellAt (i := 2) (v := .int .i64 ar) rfl
        have hA5l := hA5.lt
        clear hw5 h5 e0 e1 e2 hSr hBr hA5 hb2w
        have hnext : stands ops ⟨ls, ⟨e, r⟩⟩ a = false → Hid (∀ j (h : j < L.length), j < i + 1 → stands ops ⟨ls, ⟨e, r⟩⟩ L[j] = false) := fun hf => Lib.hid (fun j h hj => by
          by_cases hji : j = i
          · subst hji; rw [ha]; exact hf
          · exact hpre.out j h (by omega))
        replace hnext := Lib.hid hnext
        have hret : stands ops ⟨ls, ⟨e, r⟩⟩ a = true → doneC ops (aliveC cs) ⟨ls, ⟨e, r⟩⟩ = false := hdf.out a hmem
        replace hret := Lib.hid hret
        clear hpre ha hmem hbr hwr3
        by_cases hl : la = ls
        · have lq : ((la : Int) == (ls : Int)) = true := by simp [hl]
          have nq : ((la : Int) != (ls : Int)) = false := by simp [hl]
          by_cases hae : ae ≤ e
          · have de : decide (ae ≤ e) = true := by simpa using hae
            by_cases har : ar ≤ r
            · have dr : decide (ar ≤ r) = true := by simpa using har
              have hst2 : doneC ops (aliveC cs) ⟨ls, ⟨e, r⟩⟩ = false := hret.out (by rw [hst.out]; simp [hl, hae, har])
              replace hst2 := Lib.hid hst2
              clear hl hae har hnext hret hst
              refine wp_region_quiet_tail 52 (by kernel_rfl) (by kernel_rfl) ?_
              simp only [List.take_succ_cons, List.take_zero, List.drop_succ_cons, List.drop_zero]
              repeat (go_big_quiet_step (fail))
              refine wpQuiet_nil ?_
              intro _ hw'
              obtain ⟨nq9, hw''⟩ := hw'
              subst hw''
              go_wp2_with fail
              go_ret
              exact ⟨by first | (rw [hst2.out]; done) | (rw [hst2.out]; rfl), by rw [← hz0.out]; exact hbel3.trans (below_drewN hb5 _ |>.mono (Nat.le_of_lt hzw))⟩
            · have dr : decide (ar ≤ r) = false := by simpa using har
              have hst2 := hnext.out (by rw [hst.out]; simp [hl, hae, har])
              clear hl hae har hnext hret hst
              refine wp_region_quiet_tail 52 (by kernel_rfl) (by kernel_rfl) ?_
              simp only [List.take_succ_cons, List.take_zero, List.drop_succ_cons, List.drop_zero]
              repeat (go_big_quiet_step (fail))
              refine wpQuiet_nil ?_
              intro _ hw'
              obtain ⟨nq9, hw''⟩ := hw'
              subst hw''
              go_wp2_with fail
              go_roundw
              case rel => exact ⟨i + 1, by omega, by go_num, below_drewN hb5 nq9, hst2⟩
              case measure => simp [intOf]; omega
          · have de : decide (ae ≤ e) = false := by simpa using hae
            have hst2 := hnext.out (by rw [hst.out]; simp [hl, hae])
            clear hl hae hnext hret hst
            refine wp_region_quiet_tail 52 (by kernel_rfl) (by kernel_rfl) ?_
            simp only [List.take_succ_cons, List.take_zero, List.drop_succ_cons, List.drop_zero]
            repeat (go_big_quiet_step (fail))
            refine wpQuiet_nil ?_
            intro _ hw'
            obtain ⟨nq9, hw''⟩ := hw'
            subst hw''
            go_wp2_with fail
            go_roundw
            case rel => exact ⟨i + 1, by omega, by go_num, below_drewN hb5 nq9, hst2⟩
            case measure => simp [intOf]; omega
        · have lq : ((la : Int) == (ls : Int)) = false := by rw [beq_eq_false_iff_ne]; omega
          have nq : ((la : Int) != (ls : Int)) = true := by rw [bne_iff_ne]; omega
          cases vv with
          | true =>
            by_cases hae : ae ≤ e
            · have de : decide (ae ≤ e) = true := by simpa using hae
              have hst2 : doneC ops (aliveC cs) ⟨ls, ⟨e, r⟩⟩ = false := hret.out (by rw [hst.out]; simp [hl, hae])
              replace hst2 := Lib.hid hst2
              clear hl hae hnext hret hst
              refine wp_region_quiet_tail 52 (by kernel_rfl) (by kernel_rfl) ?_
              simp only [List.take_succ_cons, List.take_zero, List.drop_succ_cons, List.drop_zero]
              repeat (go_big_quiet_step (fail))
              refine wpQuiet_nil ?_
              intro _ hw'
              obtain ⟨nq9, hw''⟩ := hw'
              subst hw''
              go_wp2_with fail
              go_ret
              exact ⟨by first | (rw [hst2.out]; done) | (rw [hst2.out]; rfl), by rw [← hz0.out]; exact hbel3.trans (below_drewN hb5 _ |>.mono (Nat.le_of_lt hzw))⟩
            · have de : decide (ae ≤ e) = false := by simpa using hae
              have hst2 := hnext.out (by rw [hst.out]; simp [hl, hae])
              clear hl hae hnext hret hst
              refine wp_region_quiet_tail 52 (by kernel_rfl) (by kernel_rfl) ?_
              simp only [List.take_succ_cons, List.take_zero, List.drop_succ_cons, List.drop_zero]
              repeat (go_big_quiet_step (fail))
              refine wpQuiet_nil ?_
              intro _ hw'
              obtain ⟨nq9, hw''⟩ := hw'
              subst hw''
              go_wp2_with fail
              go_roundw
              case rel => exact ⟨i + 1, by omega, by go_num, below_drewN hb5 nq9, hst2⟩
              case measure => simp [intOf]; omega
          | false =>
            have hst2 := hnext.out (by rw [hst.out]; simp [hl])
            clear hl hnext hret hst
            refine wp_region_quiet_tail 52 (by kernel_rfl) (by kernel_rfl) ?_
            simp only [List.take_succ_cons, List.take_zero, List.drop_succ_cons, List.drop_zero]
            repeat (go_big_quiet_step (fail))
            refine wpQuiet_nil ?_
            intro _ hw'
            obtain ⟨nq9, hw''⟩ := hw'
            subst hw''
            go_wp2_with fail
            go_roundw
            case rel => exact ⟨i + 1, by omega, by go_num, below_drewN hb5 nq9, hst2⟩
            case measure => simp [intOf]; omega
      · obtain rfl : i = m := by omega
        have hst2 : doneC ops (aliveC cs) ⟨ls, ⟨e, r⟩⟩ = true := hdt.out (fun a ha => by
          obtain ⟨j, hj, rfl⟩ := List.getElem_of_mem ha
          exact hpre.out j hj (by rw [hm.out]; exact hj))
        replace hst2 := Lib.hid hst2
        clear hpre
        go_wp2_with fail
        go_ret
        exact ⟨by first | (rw [hst2.out]; done) | (rw [hst2.out]; rfl), by rw [← hz0.out]; exact hbel3.trans (hbr.mono (Nat.le_of_lt hzw))⟩
end Go.Proofs.YtjmbafcpbagpdaaGreat
