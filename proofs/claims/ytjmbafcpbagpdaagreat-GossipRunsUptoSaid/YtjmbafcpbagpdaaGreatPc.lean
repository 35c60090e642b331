/- Progress: a tracker; Count, Front. -/
import Derived.Test.YtjmbafcpbagpdaaGreatPb
namespace Go.Proofs.YtjmbafcpbagpdaaGreat
open Go.RowKit Go.Maps
set_option linter.unusedVariables false
set_option linter.unusedSimpArgs false

def getC (cs : List (TStamp × Int)) (s : TStamp) : Option Int := (cs.find? (fun p => decide (p.1 = s))).map Prod.snd
def cntC (cs : List (TStamp × Int)) (s : TStamp) : Int := (getC cs s).getD 0
theorem getE_ent (cs : List (TStamp × Int)) (s : TStamp) : getE (entC cs) s = (getC cs s).map (Value.int .i64) := by
  unfold getE entC getC
  rw [List.find?_map]
  simp only [Option.map_map]
  rfl
theorem cnt_ent (cs : List (TStamp × Int)) (s : TStamp) : (getE (entC cs) s).getD (.int .i64 0) = .int .i64 (cntC cs s) := by
  rw [getE_ent]
  unfold cntC
  cases getC cs s <;> rfl

/-- Where a tracker's parts lie. -/
structure TrX where
  gv : Value
  ps : List POp
  hb : Nat
  rs : List Nat
  mb : Nat
/-- Block tb is a tracker of the graph ops with these counts; all of it lies from base on. -/
structure Tr (w : World) (base tb : Nat) (x : TrX) (ops : List TOp) (cs : List (TStamp × Int)) : Prop where
  blk : Blk w tb #[x.gv, .slice (some ⟨x.hb, 0, none⟩) ops.length ops.length, .map (some x.mb)] 105
  held : ∃ w0 : World, OpsR base w0 x.gv x.ps ∧ RPart w0 base x.hb ops.length 0 x.rs (rch ops) ∧ w0.heap.size ≤ tb ∧ w0.heap.size ≤ x.mb ∧ Below w0.heap.size w0 w
  opsE : x.ps.map (·.x) = ops
  map : MapL Tryz.prog 59 klS wfS w x.mb (entC cs)
  nz : ∀ p ∈ cs, p.2 ≠ 0 ∧ -4611686018427387904 ≤ p.2 ∧ p.2 ≤ 4611686018427387904
  good : ∀ p ∈ cs, goodS ops p.1.fLoc p.1.fT.fEpoch p.1.fT.fRound = true
  ok : (gcheck ops).2 = 0
  btb : base ≤ tb
  bmb : base ≤ x.mb
namespace Tr
variable {w w' : World} {base tb : Nat} {x : TrX} {ops : List TOp} {cs : List (TStamp × Int)}
theorem own (h : Tr w base tb x ops cs) : OpsR base w x.gv x.ps := by
  obtain ⟨w0, h1, _, _, _, h5⟩ := h.held
  exact h1.below h5 (Nat.le_refl _)
theorem ways (h : Tr w base tb x ops cs) : RPart w base x.hb ops.length 0 x.rs (rch ops) := by
  obtain ⟨w0, _, h2, _, _, h5⟩ := h.held
  exact h2.below h5 (Nat.le_refl _)
theorem below (h : Tr w base tb x ops cs) (k : Below w.heap.size w w') : Tr w' base tb x ops cs := by
  obtain ⟨w0, h1, h2, h3, h4, h5⟩ := h.held
  exact ⟨h.blk.below k h.blk.lt, ⟨w0, h1, h2, h3, h4, h5.trans (k.mono h5.size)⟩, h.opsE, h.map.below k h.map.lt, h.nz, h.good, h.ok, h.btb, h.bmb⟩
/-- The counts change, and only they. -/
theorem turn (h : Tr w base tb x ops cs) {cs' : List (TStamp × Int)} (k : Chg (fun j => j = x.mb) w w') (hm : MapL Tryz.prog 59 klS wfS w' x.mb (entC cs')) (hz : ∀ p ∈ cs', p.2 ≠ 0 ∧ -4611686018427387904 ≤ p.2 ∧ p.2 ≤ 4611686018427387904)
    (hg : ∀ p ∈ cs', goodS ops p.1.fLoc p.1.fT.fEpoch p.1.fT.fRound = true) : Tr w' base tb x ops cs' := by
  obtain ⟨w0, h1, h2, h3, h4, h5⟩ := h.held
  exact ⟨h.blk.chg k (fun e => h.map.ne_blk h.blk e.symm), ⟨w0, h1, h2, h3, h4, h5.trans (k.below h5.size (fun j hj e => by omega))⟩, h.opsE, hm, hz, hg, h.ok, h.btb, h.bmb⟩
theorem sla (h : Tr w base tb x ops cs) : ∃ ao cap, x.gv = .slice ao ops.length cap ∧ SlA w.heap.size 7 (ROp w.heap.size) w ao cap ops := by
  obtain ⟨ao, cap, h1, h2⟩ := h.own.sla
  rw [h.opsE] at h2
  exact ⟨ao, cap, by rw [h1, ← h.opsE, List.length_map], h2⟩
end Tr

set_option maxRecDepth 100000 in
set_option maxHeartbeats 1000000 in
theorem count_any (s : TStamp) (hs : wfS s) {base tb : Nat} {x : TrX} {ops : List TOp} {cs : List (TStamp × Int)} (w : World) (hT : Tr w base tb x ops cs) :
    Calls Tryz.prog 55 #[.pointer (some ⟨tb, 0, none⟩), mkS s] w fun e w' => e = .returned (.int .i64 (cntC cs s)) ∧ Below w.heap.size w w' := by
  obtain ⟨l, ⟨e, r⟩⟩ := s
  have hM := hT.map
  have hB := hT.blk
  obtain ⟨mb, hmb⟩ : ∃ mb, mb = x.mb := ⟨_, rfl⟩
  rw [← hmb] at hM hB
  generalize x.gv = gv at hB
  generalize Value.slice (some ⟨x.hb, 0, none⟩) ops.length ops.length = wv at hB
  clear hT hmb
  unfold mkS
  dsimp only
  go_enter Tryz.func55, Tryz.ntmps55
  go_upto_region 3 with fail
  refine Code.wp_world ?_
  intro w1 hw1
  have h01 : Below w.heap.size w w1 := by rw [hw1]; exact (Below.refl _ _).alloc (Nat.le_refl _) _
  have hS : Blk w1 w.heap.size #[.int .i64 l, .int .i64 e, .int .i64 r] 59 := by rw [hw1]; exact Blk.new _ _ _
  have hM1 := hM.below h01 hM.lt
  have hB1 := hB.below h01 hB.lt
  clear hw1 hM hB
  obtain ⟨z, hz⟩ : ∃ z, z = w.heap.size := ⟨_, rfl⟩
  rw [← hz] at hS h01 ⊢
  replace hz := Lib.hid hz
  refine wp_region_tree (fun wx => wx.cell? ⟨tb, 2, none⟩ = some (.map (some mb)) ∧ wx.cell? ⟨z, 0, none⟩ = some (.int .i64 l) ∧ wx.cell? ⟨z, 1, none⟩ = some (.int .i64 e) ∧ wx.cell? ⟨z, 2, none⟩ = some (.int .i64 r)) 5 7 (by kernel_rfl) rfl (by kernel_rfl) (fun d _ _ _ _ h => by cases d <;> exact h) (⟨hB1.cellAt rfl, hS.cellAt rfl, hS.cellAt rfl, hS.cellAt rfl⟩) (fun opz T hOps hT hTok hHeld => ?_)
  (refine wpTree_q 0 hTok hOps (by kernel_rfl) rfl rfl ⟨?_, ?_, ?_⟩; rotate_left; (focus (intro wx hSx; (try dsimp only at hSx); go_simp; (try with_reducible rfl))); (simp only [Act.put, List.setIfInBounds_toArray, List.set_cons_zero, List.set_cons_succ]))
  (refine wpTree_q 1 hTok hOps (by kernel_rfl) rfl rfl ⟨?_, ?_, ?_⟩; rotate_left; (focus (intro wx hSx; (try dsimp only at hSx); go_simp; (try with_reducible rfl))); (simp only [Act.put, List.setIfInBounds_toArray, List.set_cons_zero, List.set_cons_succ]))
  (refine wpTree_q 2 hTok hOps (by kernel_rfl) rfl rfl ⟨?_, ?_, ?_⟩; rotate_left; (focus (intro wx hSx; (try dsimp only at hSx); go_simp; (try with_reducible rfl))); (simp only [Act.put, List.setIfInBounds_toArray, List.set_cons_zero, List.set_cons_succ]))
  (refine wpTree_q 3 hTok hOps (by kernel_rfl) rfl rfl ⟨?_, ?_, ?_⟩; rotate_left; (focus (intro wx hSx; (try dsimp only at hSx); go_simp; (try with_reducible rfl))); (simp only [Act.put, List.setIfInBounds_toArray, List.set_cons_zero, List.set_cons_succ]))
  (refine wpTree_q 4 hTok hOps (by kernel_rfl) rfl rfl ⟨?_, ?_, ?_⟩; rotate_left; (focus (intro wx hSx; (try dsimp only at hSx); go_simp; (try with_reducible rfl))); (simp only [Act.put, List.setIfInBounds_toArray, List.set_cons_zero, List.set_cons_succ]))
  refine wpTree_nil hOps (by kernel_rfl) ?_
  refine hT.out _ _ ?_
  simp only [List.drop_succ_cons, List.drop_zero]
  have hM2 : MapL Tryz.prog 59 klS wfS w1.drew mb (entC cs) := hM1.chg ((Chg.refl (fun _ => False) w1).drew) (fun h => h)
  refine wpList_lookupL rfl _ _ _ _ rfl keyS hM2 Tryz.underlying103 (zeroInt _) hs rfl rfl ?_
  simp only [Bool.false_eq_true, if_false, cnt_ent]
  have hbd : Below z w w1.drew := h01.drew
  go_wp2_with fail
  go_ret
  exact ⟨rfl, by rw [← hz.out]; exact hbd⟩
end Go.Proofs.YtjmbafcpbagpdaaGreat
