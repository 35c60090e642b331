/- Gossip: Done. -/
import Derived.Test.YtjmbafcpbagpdaaGreatJ11
import Derived.Test.YtjmbafcpbagpdaaGreatJ12
namespace Go.Proofs.YtjmbafcpbagpdaaGreat
open Go.RowKit Go.Shelf Go.Maps
set_option linter.unusedVariables false
set_option linter.unusedSimpArgs false

theorem gdone_no (k : Int) (s : TStamp) (v : Value) (w : World) (hth : ∀ W, Below w.heap.size w W → Calls Tryz.prog 31 #[v, .int .i64 k] W fun e w' => e = .returned (.bool false) ∧ w' = W) :
    Calls Tryz.prog 17 #[v, .int .i64 k, mkS s] w fun e w' => e = .returned (.bool false) ∧ Below w.heap.size w w' := by
  obtain ⟨l, ⟨e, r⟩⟩ := s
  unfold mkS
  dsimp only
  replace hth := Lib.hid hth
  go_enter Tryz.func17, Tryz.ntmps17
  go_upto_region 1 with fail
  refine Code.wp_world ?_
  intro w1 hw1
  have h01 : Below w.heap.size w w1 := by rw [hw1]; exact below_allocJ _ _
  clear hw1
  refine wp_region_tree (fun wx => True) 12 15 (by kernel_rfl) rfl (by kernel_rfl) (fun d _ _ _ _ h => by cases d <;> exact h) (trivial) (fun opz T hOps hT hTok hHeld => ?_)
  have h02 : Below w.heap.size w w1.drew := h01.drew
  generalize w1.drew = w2 at h02 hHeld ⊢
  (refine wpTree_q 0 hTok hOps (by kernel_rfl) rfl rfl ⟨?_, ?_, ?_⟩; rotate_left; (focus (intro wx hSx; (try dsimp only at hSx); go_simp; (try with_reducible rfl))); (simp only [Act.put, List.setIfInBounds_toArray, List.set_cons_zero, List.set_cons_succ]))
  (refine wpTree_q 1 hTok hOps (by kernel_rfl) rfl rfl ⟨?_, ?_, ?_⟩; rotate_left; (focus (intro wx hSx; (try dsimp only at hSx); go_simp; (try with_reducible rfl))); (simp only [Act.put, List.setIfInBounds_toArray, List.set_cons_zero, List.set_cons_succ]))
  refine wpTree_1 2 hOps (by kernel_rfl) (by decide) rfl (fun K' hK => ?_)
  go_simp
  refine (hth.out _ h02).mono ?_
  rintro e w3 ⟨rfl, hw3⟩
  rw [hw3]
  clear hw3 w3
  try dsimp only
  refine hK.out _ _ trivial ?_
  clear hK K'
  try simp only [Act.put, List.setIfInBounds_toArray, List.set_cons_zero, List.set_cons_succ]
  (refine wpTree_q 3 hTok hOps (by kernel_rfl) rfl rfl ⟨?_, ?_, ?_⟩; rotate_left; (focus (intro wx hSx; (try dsimp only at hSx); go_simp; (try with_reducible rfl))); (simp only [Act.put, List.setIfInBounds_toArray, List.set_cons_zero, List.set_cons_succ]))
  (refine wpTree_qn 4 hTok hOps (by kernel_rfl) rfl rfl ?_; (try simp only [Act.put, List.setIfInBounds_toArray, List.set_cons_zero, List.set_cons_succ]))
  (refine wpTree_qn 5 hTok hOps (by kernel_rfl) rfl rfl ?_; (try simp only [Act.put, List.setIfInBounds_toArray, List.set_cons_zero, List.set_cons_succ]))
  (refine wpTree_qn 6 hTok hOps (by kernel_rfl) rfl rfl ?_; (try simp only [Act.put, List.setIfInBounds_toArray, List.set_cons_zero, List.set_cons_succ]))
  (refine wpTree_qn 7 hTok hOps (by kernel_rfl) rfl rfl ?_; (try simp only [Act.put, List.setIfInBounds_toArray, List.set_cons_zero, List.set_cons_succ]))
  (refine wpTree_qn 8 hTok hOps (by kernel_rfl) rfl rfl ?_; (try simp only [Act.put, List.setIfInBounds_toArray, List.set_cons_zero, List.set_cons_succ]))
  (refine wpTree_qn 9 hTok hOps (by kernel_rfl) rfl rfl ?_; (try simp only [Act.put, List.setIfInBounds_toArray, List.set_cons_zero, List.set_cons_succ]))
  (refine wpTree_qn 10 hTok hOps (by kernel_rfl) rfl rfl ?_; (try simp only [Act.put, List.setIfInBounds_toArray, List.set_cons_zero, List.set_cons_succ]))
  (refine wpTree_qn 11 hTok hOps (by kernel_rfl) rfl rfl ?_; (try simp only [Act.put, List.setIfInBounds_toArray, List.set_cons_zero, List.set_cons_succ]))
  refine wpTree_nil hOps (by kernel_rfl) ?_
  refine hT.out _ _ ?_
  simp only [List.drop_succ_cons, List.drop_zero]
  clear hOps hT hTok
  try clear hHeld
  go_wp2_with fail
  go_ret
  exact ⟨rfl, h02⟩
open Classical in
theorem gdone_any (k : Int) (s : TStamp) {w : World} {A U gb N M : Nat} {X : Nat → Prop} {p : GP} {ops : List TOp} {m : GM} (h : Gos w A U X gb p ops m N M) (hN : (N + 1) * 24 ≤ 140737488355328) :
    Calls Tryz.prog 17 #[.pointer (some ⟨gb, 0, none⟩), .int .i64 k, mkS s] w fun e w' => e = .returned (.bool (decide (0 ≤ k ∧ k < m.n) && doneF ops (m.c (k.toNat + 1)) s)) ∧ Below w.heap.size w w' := by
  have h8 := h.n8
  by_cases hk : 0 ≤ k ∧ k < m.n
  rotate_left
  · rw [decide_eq_false hk, Bool.false_and]
    refine gdone_no k s _ w (fun W hb => ?_)
    have := (h.below hb).there k
    rw [decide_eq_false hk] at this
    exact this
  rw [decide_eq_true hk, Bool.true_and]
  obtain ⟨j, rfl⟩ : ∃ j : Nat, k = j := ⟨k.toNat, by omega⟩
  rw [Int.toNat_natCast]
  have hj : j < m.n := by omega
  have hth := fun W (hb : Below w.heap.size w W) => by
    have := (h.below hb).there j
    rw [decide_eq_true hk] at this
    exact this
  have c2 := h.gcell2
  have cv := h.vcell hj
  have hgl : gb < w.heap.size := World.lt_of_cell c2
  have hvl : p.vb < w.heap.size := World.lt_of_cell cv
  obtain ⟨⟨cs, hT, hcs, hcl⟩, _, _⟩ := h.trs (j + 1) (by omega)
  have hf := fun W (hb : Below w.heap.size w W) => tdone_any s W (hT.below hb) (by omega)
  rw [done_cs hT.nodup, hcs] at hf
  obtain ⟨n, hn⟩ : ∃ n, n = m.n := ⟨_, rfl⟩
  obtain ⟨tb, htb⟩ : ∃ tb, tb = (p.tp (j + 1)).tb := ⟨_, rfl⟩
  obtain ⟨vb, hvb⟩ : ∃ vb, vb = p.vb := ⟨_, rfl⟩
  obtain ⟨bR, hbR⟩ : ∃ bR, bR = doneF ops (m.c (j + 1)) s := ⟨_, rfl⟩
  rw [← hbR] at hf ⊢
  rw [← hn] at c2 hj h8
  rw [← htb] at cv hf
  rw [← hvb] at cv c2 hvl
  replace hth := Lib.hid hth
  obtain ⟨l, ⟨e, r⟩⟩ := s
  unfold mkS at hf ⊢
  dsimp only at hf ⊢
  replace hf := Lib.hid hf
  clear h hT hcs hk hn htb hvb hbR
  go_enter Tryz.func17, Tryz.ntmps17
  go_upto_region 1 with fail
  refine Code.wp_world ?_
  intro w1 hw1
  have h01 : Below w.heap.size w w1 := by rw [hw1]; exact below_allocJ _ _
  have hS : Blk w1 w.heap.size #[.int .i64 l, .int .i64 e, .int .i64 r] 59 := by rw [hw1]; exact Blk.new _ _ _
  obtain ⟨z, hz⟩ : ∃ z, z = w.heap.size := ⟨_, rfl⟩
  rw [← hz] at hS ⊢
  replace hz := Lib.hid hz
  clear hw1
  have q2 := (h01.cell (p := ⟨gb, 2, none⟩) hgl).trans c2
  have qv := (h01.cell (p := ⟨vb, j, none⟩) hvl).trans cv
  refine wp_region_tree (fun wx => wx.cell? ⟨gb, 2, none⟩ = some (.slice (some ⟨vb, 0, none⟩) n p.vc) ∧ wx.cell? ⟨vb, j, none⟩ = some (.pointer (some ⟨tb, 0, none⟩)) ∧ wx.cell? ⟨z, 0, none⟩ = some (.int .i64 l) ∧ wx.cell? ⟨z, 1, none⟩ = some (.int .i64 e) ∧ wx.cell? ⟨z, 2, none⟩ = some (.int .i64 r)) 12 15 (by kernel_rfl) rfl (by kernel_rfl) (fun d _ _ _ _ h => by cases d <;> exact h) (⟨q2, qv, hS.cellAt rfl, hS.cellAt rfl, hS.cellAt rfl⟩) (fun opz T hOps hT hTok hHeld => ?_)
  have h02 : Below w.heap.size w w1.drew := h01.drew
  generalize w1.drew = w2 at h02 hHeld ⊢
  (refine wpTree_q 0 hTok hOps (by kernel_rfl) rfl rfl ⟨?_, ?_, ?_⟩; rotate_left; (focus (intro wx hSx; (try dsimp only at hSx); go_simp; (try with_reducible rfl))); (simp only [Act.put, List.setIfInBounds_toArray, List.set_cons_zero, List.set_cons_succ]))
  (refine wpTree_q 1 hTok hOps (by kernel_rfl) rfl rfl ⟨?_, ?_, ?_⟩; rotate_left; (focus (intro wx hSx; (try dsimp only at hSx); go_simp; (try with_reducible rfl))); (simp only [Act.put, List.setIfInBounds_toArray, List.set_cons_zero, List.set_cons_succ]))
  refine wpTree_1 2 hOps (by kernel_rfl) (by decide) rfl (fun K' hK => ?_)
  go_simp
  refine (hth.out _ h02).mono ?_
  rintro e w3 ⟨rfl, hw3⟩
  rw [hw3]
  clear hw3 w3
  try dsimp only
  refine hK.out _ _ hHeld ?_
  clear hK K'
  try simp only [Act.put, List.setIfInBounds_toArray, List.set_cons_zero, List.set_cons_succ]
  (refine wpTree_qg 3 hTok hOps (by kernel_rfl) rfl rfl ⟨?_, ?_, ?_⟩; rotate_left; (focus (intro wx hSx; (try dsimp only at hSx); go_simp; (try with_reducible rfl))); (simp only [Act.put, List.setIfInBounds_toArray, List.set_cons_zero, List.set_cons_succ]))
  (refine wpTree_qg 4 hTok hOps (by kernel_rfl) rfl rfl ⟨?_, ?_, ?_⟩; rotate_left; (focus (intro wx hSx; (try dsimp only at hSx); go_simp; (try with_reducible rfl))); (simp only [Act.put, List.setIfInBounds_toArray, List.set_cons_zero, List.set_cons_succ]))
  (refine wpTree_qg 5 hTok hOps (by kernel_rfl) rfl rfl ⟨?_, ?_, ?_⟩; rotate_left; (focus (intro wx hSx; (try dsimp only at hSx); go_simp; (try with_reducible rfl))); (simp only [Act.put, List.setIfInBounds_toArray, List.set_cons_zero, List.set_cons_succ]))
  (refine wpTree_qg 6 hTok hOps (by kernel_rfl) rfl rfl ⟨?_, ?_, ?_⟩; rotate_left; (focus (intro wx hSx; (try dsimp only at hSx); go_simp; (try with_reducible rfl))); (simp only [Act.put, List.setIfInBounds_toArray, List.set_cons_zero, List.set_cons_succ]))
  (refine wpTree_qg 7 hTok hOps (by kernel_rfl) rfl rfl ⟨?_, ?_, ?_⟩; rotate_left; (focus (intro wx hSx; (try dsimp only at hSx); go_simp; (try with_reducible rfl))); (simp only [Act.put, List.setIfInBounds_toArray, List.set_cons_zero, List.set_cons_succ]))
  (refine wpTree_qg 8 hTok hOps (by kernel_rfl) rfl rfl ⟨?_, ?_, ?_⟩; rotate_left; (focus (intro wx hSx; (try dsimp only at hSx); go_simp; (try with_reducible rfl))); (simp only [Act.put, List.setIfInBounds_toArray, List.set_cons_zero, List.set_cons_succ]))
  (refine wpTree_qg 9 hTok hOps (by kernel_rfl) rfl rfl ⟨?_, ?_, ?_⟩; rotate_left; (focus (intro wx hSx; (try dsimp only at hSx); go_simp; (try with_reducible rfl))); (simp only [Act.put, List.setIfInBounds_toArray, List.set_cons_zero, List.set_cons_succ]))
  (refine wpTree_qg 10 hTok hOps (by kernel_rfl) rfl rfl ⟨?_, ?_, ?_⟩; rotate_left; (focus (intro wx hSx; (try dsimp only at hSx); go_simp; (try with_reducible rfl))); (simp only [Act.put, List.setIfInBounds_toArray, List.set_cons_zero, List.set_cons_succ]))
  (refine wpTree_qg 11 hTok hOps (by kernel_rfl) rfl rfl ⟨?_, ?_, ?_⟩; rotate_left; (focus (intro wx hSx; (try dsimp only at hSx); go_simp; (try with_reducible rfl))); (simp only [Act.put, List.setIfInBounds_toArray, List.set_cons_zero, List.set_cons_succ]))
  refine wpTree_nil hOps (by kernel_rfl) ?_
  refine hT.out _ _ ?_
  simp only [List.drop_succ_cons, List.drop_zero]
  clear hOps hT hTok
  try clear hHeld
  go_wp2_with fail
  refine (hf.out _ h02).mono ?_
  rintro e w3 ⟨rfl, hb3⟩
  have hb := h02.trans (hb3.mono h02.size)
  dsimp only
  go_wp2_with fail
  go_ret
  exact ⟨rfl, by first | exact hb | (rw [hz.out]; exact hb)⟩
end Go.Proofs.YtjmbafcpbagpdaaGreat

/- Gossip: the example. -/
namespace Go.Proofs.YtjmbafcpbagpdaaGreat
open Go.RowKit Go.Shelf Go.Maps
set_option linter.unusedVariables false
set_option linter.unusedSimpArgs false

theorem Gos.out {w : World} {A U gb N M : Nat} {X : Nat → Prop} {p : GP} {ops : List TOp} {m : GM} (h : Gos w A U X gb p ops m N M) {b : Nat} (hb : w.heap.size ≤ b) : ¬ Foot A U X b := fun e => by have := h.foot_lt e; omega
theorem doM_no {ops : List TOp} {m : GM} {k : Int} {l : List TCount} (h : doE ops m k l ≠ 0) : doM ops m k l = m := by unfold doM; rw [if_neg h]
theorem gnew_all (k : Int) (l : List TCount) (la : Option Addr) (lc M : Nat) (ops : List TOp) (ao : Option Addr) (cap : Nat) (w : World) (hx : SlA w.heap.size 7 (ROp w.heap.size) w ao cap ops) (hzi : ∀ o ∈ ops, o.fIn.length * 8 ≤ 140737488355328)
    (hl : SlA w.heap.size 4 (RCount w.heap.size) w la lc l) (hz : l.length * 32 ≤ 140737488355328) :
    Calls Tryz.prog 5 #[.agg #[.slice ao ops.length cap], .int .i64 k, .slice la l.length lc] w (NewP w ops k l M) := by
  by_cases hok : (gcheck ops).2 = 0
  · by_cases hbad : ¬ (1 ≤ k ∧ k ≤ 8) ∨ ∃ c ∈ l, c.fN < 0
    · exact gnew_arg k l la lc M ops ao cap w hx hok hzi hl hz hbad
    · obtain ⟨hb1, hb2⟩ := not_or.1 hbad
      exact gnew_ok k l la lc M ops ao cap w hx hok hzi hl hz (Classical.not_not.1 hb1) hb2
  · exact gnew_no k _ l M ops ao cap w hx hok
def gks : TStamp := ⟨0, ⟨0, 0⟩⟩
def gkt : TStamp := ⟨1, ⟨0, 0⟩⟩
def gk0 : List TCount := [⟨gks, 1⟩]
def gk1 : List TCount := [⟨gkt, 1⟩]
def gk2 : List TCount := [⟨gks, -1⟩, ⟨gkt, 1⟩]
theorem gkE : newGE pkn 2 gk0 = 0 := by
  unfold newGE
  rw [if_neg (by decide), if_neg (by decide), if_neg (by decide), if_neg (by decide +kernel)]
theorem gkD1 : doE pkn (newGM 2 gk0) 0 gk1 = 9 := by
  unfold doE
  rw [if_neg (by decide), if_neg (by decide), if_pos]
  unfold standsF
  have : nxL gk1 = [(gkt, 1)] := by decide +kernel
  rw [this]
  simp [standB]
theorem gkD2 : doE pkn (newGM 2 gk0) 0 gk2 = 0 := by
  unfold doE
  have hn : nxL gk2 = [(gkt, 1), (gks, -1)] := by decide +kernel
  have hr : rch pkn 0 1 = true := rch_iff.2 (.step ⟨_, rfl, by simp⟩ (.refl _))
  have hc : cld pkn gks gkt = true := couldS_mk (by decide) (by decide) (by decide) (by unfold wayS gks gkt; simp [hr])
  have hs : standsF pkn ((newGM 2 gk0).c 0) gk2 = true := by
    unfold standsF
    rw [hn]
    have h0 : (newGM 2 gk0).c 0 gks = 1 := by decide +kernel
    have hw : wrap64 1 = 1 := IntWalk.wrap64_in _ (by omega)
    simp [standB, hc, h0, hw]
  rw [if_neg (by decide), if_neg (by decide), hs, if_neg (by simp), if_neg, if_neg (by decide +kernel)]
  rintro ⟨j, _, h⟩
  simp [newGM] at h
theorem gkW : waitN (doM pkn (newGM 2 gk0) 0 gk2) 0 1 = 1 := by
  unfold doM
  rw [if_pos gkD2]
  rfl
open Classical in
theorem gkF : doneF pkn ((doM pkn (newGM 2 gk0) 0 gk2).c ((1 : Int).toNat + 1)) gks = false := by
  unfold doM
  rw [if_pos gkD2]
  unfold doneF
  rw [show goodS pkn gks.fLoc gks.fT.fEpoch gks.fT.fRound = true by decide, Bool.true_and]
  refine decide_eq_false (fun h => ?_)
  have := h gks (by show 0 < addF (fun _ => 0) gk0 gks; decide +kernel)
  unfold stands at this
  simp at this
theorem belowA (w : World) {u : World} (h : Below w.heap.size w u) (o : Obj) : Below w.heap.size w (u.alloc o) := h.alloc h.size o

set_option maxRecDepth 100000 in
set_option maxHeartbeats 2000000 in
theorem gknown_any (w : World) : Calls Tryz.prog 4 #[] w fun e w' => e = .returned (.bool true) ∧ Below w.heap.size w w' := by
  go_enter Tryz.func4, Tryz.ntmps4
  go_upto_region 4 with fail
  refine Code.wp_world ?_
  intro w5 hw5
  have hrd := pkn_read w
  have hb0 : Below w.heap.size w ((w.alloc (.cells #[.int .i64 0] 3)).alloc (.cells #[.int .i64 1, .slice none 0 0, .int .i64 0, .int .u32 0, .int .i64 0, .int .i64 0, .int .u32 0, .int .i64 8, .slice (some ⟨w.heap.size, 0, none⟩) 1 1, .int .i64 0, .int .u32 0, .int .i64 0, .int .i64 0, .int .u32 0] 73)) := ((Below.refl _ _).alloc (Nat.le_refl _) _).alloc (by simp) _
  have hs0 : ((w.alloc (.cells #[.int .i64 0] 3)).alloc (.cells #[.int .i64 1, .slice none 0 0, .int .i64 0, .int .u32 0, .int .i64 0, .int .i64 0, .int .u32 0, .int .i64 8, .slice (some ⟨w.heap.size, 0, none⟩) 1 1, .int .i64 0, .int .u32 0, .int .i64 0, .int .i64 0, .int .u32 0] 73)).heap.size = w.heap.size + 2 := by simp
  generalize (w.alloc (.cells #[.int .i64 0] 3)).alloc _ = w0 at hrd hb0 hs0 hw5
  have hb5 : Below w0.heap.size w0 w5 := by rw [hw5]; exact belowA _ (belowA _ (below_allocJ _ _) _) _
  have hg5 := imp_ops2 hrd hb5
  have hG5 : Blk w5 (w.heap.size + 2) #[.slice (some ⟨w.heap.size + 1, 0, none⟩) 2 2] 24 := by rw [hw5]; exact ((Blk.new_at w0 _ _ hs0).alloc _).alloc _
  have hS5 : Blk w5 (w.heap.size + 3) #[.int .i64 0, .int .i64 0, .int .i64 0] 59 := by rw [hw5]; exact (Blk.new_at _ _ _ (by simp [hs0])).alloc _
  have hT5 : Blk w5 (w.heap.size + 4) #[.int .i64 1, .int .i64 0, .int .i64 0] 59 := by rw [hw5]; exact Blk.new_at _ _ _ (by simp [hs0])
  have hbel := hb0.trans (hb5.mono hb0.size)
  have hs5 : w5.heap.size = w.heap.size + 5 := by rw [hw5]; simp [hs0]
  obtain ⟨gb0, hgb0⟩ : ∃ g, g = w.heap.size + 2 := ⟨_, rfl⟩
  rw [← hgb0] at hG5 ⊢
  rw [show w.heap.size + 3 = gb0 + 1 by omega] at hS5
  obtain ⟨sb, hsb⟩ : ∃ g, g = gb0 + 1 := ⟨_, rfl⟩
  rw [← hsb] at hS5 ⊢
  rw [show w.heap.size + 4 = sb + 1 by omega] at hT5
  obtain ⟨tb, htb⟩ : ∃ g, g = sb + 1 := ⟨_, rfl⟩
  rw [← htb] at hT5 ⊢
  obtain ⟨ob, hob⟩ : ∃ g, g = w.heap.size + 1 := ⟨_, rfl⟩
  rw [← hob] at hG5 hg5
  have hsl : sb < w5.heap.size := by omega
  have htl : tb < w5.heap.size := by omega
  clear hw5 hb0 hrd hb5 hs0 hgb0 hsb htb hob hs5
  have cg := hG5.cellAt (i := 0) (v := .slice (some ⟨ob, 0, none⟩) 2 2) rfl
  have s0 := hS5.cellAt (i := 0) (v := .int .i64 0) rfl
  have s1 := hS5.cellAt (i := 1) (v := .int .i64 0) rfl
  have s2 := hS5.cellAt (i := 2) (v := .int .i64 0) rfl
  go_wp2_with fail
  have hb6 := below_allocJ w5 (.cells #[.int .i64 0, .int .i64 0, .int .i64 0, .int .i64 1] 67)
  have hB6 := Blk.new w5 #[.int .i64 0, .int .i64 0, .int .i64 0, .int .i64 1] 67
  generalize w5.alloc (.cells #[.int .i64 0, .int .i64 0, .int .i64 0, .int .i64 1] 67) = w6 at hb6 hB6 ⊢
  have hl6 : SlA w6.heap.size 4 (RCount w6.heap.size) w6 (some ⟨w5.heap.size, 0, none⟩) 1 gk0 := by
    refine SlA.of_blk hB6 hB6.lt (by decide) (by unfold maxLen; omega) ?_
    intro i hi
    match i, hi with
    | 0, _ => exact ⟨[.int .i64 0, .int .i64 0, .int .i64 0, .int .i64 1], rfl, fun j hj => (match j, hj with | 0, _ | 1, _ | 2, _ | 3, _ => rfl), rfl, rfl, rfl, rfl, rfl⟩
  refine (gnew_all 2 gk0 _ 1 2 pkn _ 2 w6 (imp_ops2 hg5 hb6) (fun o ho => by
    simp only [pkn, List.mem_cons, List.not_mem_nil, or_false] at ho
    rcases ho with rfl | rfl <;> simp) hl6 (by decide)).mono ?_
  rintro e w7 ⟨hb7, _, hgood⟩
  obtain ⟨gb, p, rfl, hpg, hG⟩ := hgood gkE
  rw [show (2 : Int).toNat = 2 from rfl] at hG
  have hb67 := hb6.trans (hb7.mono hb6.size)
  have hS7 := hS5.below hb67 hsl
  have hT7 := hT5.below hb67 htl
  have hbel7 := hbel.trans (hb67.mono hbel.size)
  have hsl7 : sb < w7.heap.size := hS7.lt
  have htl7 : tb < w7.heap.size := hT7.lt
  have h67 := hb7.size
  have hs6w : sb < w6.heap.size := by have := hb6.size; omega
  have ht6w : tb < w6.heap.size := by have := hb6.size; omega
  have hw6w : w.heap.size ≤ w6.heap.size := by have := hbel.size; have := hb6.size; omega
  clear hgood hl6 hB6 hb6 hb7 hb67 hg5 hG5 hS5 hT5 cg s0 s1 s2 hbel hsl htl
  have s0 := hS7.cellAt (i := 0) (v := .int .i64 0) rfl
  have s1 := hS7.cellAt (i := 1) (v := .int .i64 0) rfl
  have s2 := hS7.cellAt (i := 2) (v := .int .i64 0) rfl
  have t0 := hT7.cellAt (i := 0) (v := .int .i64 1) rfl
  have t1 := hT7.cellAt (i := 1) (v := .int .i64 0) rfl
  have t2 := hT7.cellAt (i := 2) (v := .int .i64 0) rfl
  dsimp only
  go_wp2_with fail
  have hb8 := below_allocJ w7 (.cells #[.int .i64 1, .int .i64 0, .int .i64 0, .int .i64 1] 67)
  have hB8 := Blk.new w7 #[.int .i64 1, .int .i64 0, .int .i64 0, .int .i64 1] 67
  generalize w7.alloc (.cells #[.int .i64 1, .int .i64 0, .int .i64 0, .int .i64 1] 67) = w8 at hb8 hB8 ⊢
  have hl8 : SlA w8.heap.size 4 (RCount w8.heap.size) w8 (some ⟨w7.heap.size, 0, none⟩) 1 gk1 := by
    refine SlA.of_blk hB8 hB8.lt (by decide) (by unfold maxLen; omega) ?_
    intro i hi
    match i, hi with
    | 0, _ => exact ⟨[.int .i64 1, .int .i64 0, .int .i64 0, .int .i64 1], rfl, fun j hj => (match j, hj with | 0, _ | 1, _ | 2, _ | 3, _ => rfl), rfl, rfl, rfl, rfl, rfl⟩
  refine (do_any 0 gk1 _ 1 w8 (hG.below hb8) hpg hl8 (by decide) (by decide) (by decide) (fun _ a e => by cases e; exact hG.out (Nat.le_refl _))).mono ?_
  rintro e w9 ⟨rfl, hc9, X9, hX9, hG9⟩
  rw [doM_no (by rw [gkD1]; decide)] at hG9
  rw [gkD1]
  have hc79 : Chg (Foot w6.heap.size w7.heap.size (fun _ => False)) w7 w9 := ((Chg.of_below hb8).mono (fun k hk e => absurd hk (by omega))).trans hc9
  have hS9 := hS7.chg hc79 (fun e => by rcases e with e | e <;> omega)
  have hT9 := hT7.chg hc79 (fun e => by rcases e with e | e <;> omega)
  have hbel9 : Below w.heap.size w w9 := hbel7.trans (hc79.below hbel7.size (fun k hk e => by rcases e with e | e <;> omega))
  have hs9 := hc79.size
  clear hG hb8 hB8 hl8 hc9 hc79 hbel7 hS7 hT7 s0 s1 s2 t0 t1 t2 hX9
  have s0 := hS9.cellAt (i := 0) (v := .int .i64 0) rfl
  have s1 := hS9.cellAt (i := 1) (v := .int .i64 0) rfl
  have s2 := hS9.cellAt (i := 2) (v := .int .i64 0) rfl
  have t0 := hT9.cellAt (i := 0) (v := .int .i64 1) rfl
  have t1 := hT9.cellAt (i := 1) (v := .int .i64 0) rfl
  have t2 := hT9.cellAt (i := 2) (v := .int .i64 0) rfl
  dsimp only
  go_wp2_with fail
  have hb10 := below_allocJ w9 (.cells #[.int .i64 0, .int .i64 0, .int .i64 0, .int .i64 (-1), .int .i64 1, .int .i64 0, .int .i64 0, .int .i64 1] 67)
  have hB10 := Blk.new w9 #[.int .i64 0, .int .i64 0, .int .i64 0, .int .i64 (-1), .int .i64 1, .int .i64 0, .int .i64 0, .int .i64 1] 67
  generalize w9.alloc (.cells #[.int .i64 0, .int .i64 0, .int .i64 0, .int .i64 (-1), .int .i64 1, .int .i64 0, .int .i64 0, .int .i64 1] 67) = w10 at hb10 hB10 ⊢
  have hl10 : SlA w10.heap.size 4 (RCount w10.heap.size) w10 (some ⟨w9.heap.size, 0, none⟩) 2 gk2 := by
    refine SlA.of_blk hB10 hB10.lt (by decide) (by unfold maxLen; omega) ?_
    intro i hi
    match i, hi with
    | 0, _ => exact ⟨[.int .i64 0, .int .i64 0, .int .i64 0, .int .i64 (-1)], rfl, fun j hj => (match j, hj with | 0, _ | 1, _ | 2, _ | 3, _ => rfl), rfl, rfl, rfl, rfl, rfl⟩
    | 1, _ => exact ⟨[.int .i64 1, .int .i64 0, .int .i64 0, .int .i64 1], rfl, fun j hj => (match j, hj with | 0, _ | 1, _ | 2, _ | 3, _ => rfl), rfl, rfl, rfl, rfl, rfl⟩
  refine (do_any 0 gk2 _ 2 w10 (hG9.below hb10) hpg hl10 (by decide) (by decide) (by decide) (fun _ a e => by cases e; exact hG9.out (Nat.le_refl _))).mono ?_
  rintro e w11 ⟨rfl, hc11, X11, hX11, hG11⟩
  rw [gkD2]
  have hw9w := hG9.xU
  have hc911 : Chg (Foot w6.heap.size w7.heap.size X9) w9 w11 := ((Chg.of_below hb10).mono (fun k hk e => absurd hk (by omega))).trans hc11
  have hS11 := hS9.chg hc911 (fun e => by rcases e with e | e <;> first | omega | (have := hw9w _ e; omega))
  have hbel11 : Below w.heap.size w w11 := hbel9.trans (hc911.below hbel9.size (fun k hk e => by rcases e with e | e <;> first | omega | (have := hw9w _ e; omega)))
  clear hG9 hb10 hB10 hl10 hc11 hc911 hbel9 hS9 hT9 s0 s1 s2 t0 t1 t2 hX11 hw9w
  have s0 := hS11.cellAt (i := 0) (v := .int .i64 0) rfl
  have s1 := hS11.cellAt (i := 1) (v := .int .i64 0) rfl
  have s2 := hS11.cellAt (i := 2) (v := .int .i64 0) rfl
  dsimp only
  go_wp2_with fail
  refine (wait_any 0 1 hG11).mono ?_
  rintro e w' ⟨rfl, hww⟩
  rw [hww, gkW]
  clear hww w'
  dsimp only
  go_wp2_with fail
  have hdn := gdone_any 1 gks hG11 (by decide)
  rw [gkF, Bool.and_false] at hdn
  refine hdn.mono ?_
  rintro e w12 ⟨rfl, hb12⟩
  have hbel12 := hbel11.trans (hb12.mono hbel11.size)
  dsimp only
  go_wp2_with fail
  go_ret
  exact ⟨rfl, hbel12⟩
end Go.Proofs.YtjmbafcpbagpdaaGreat

/- Gossip: two gossips side by side. -/
namespace Go.Proofs.YtjmbafcpbagpdaaGreat
open Go.RowKit Go.Shelf Go.Maps
set_option linter.unusedVariables false
set_option linter.unusedSimpArgs false

/-- Two gossips beside each other; what was there below B stays. -/
structure Two (w0 wr : World) (B : Nat) (A1 U1 : Nat) (X1 : Nat → Prop) (g1 : Nat) (p1 : GP) (m1 : GM) (A2 U2 : Nat) (X2 : Nat → Prop) (g2 : Nat) (p2 : GP) (m2 : GM) (ops : List TOp) (N M : Nat) : Prop where
  gx : Gos wr A1 U1 X1 g1 p1 ops m1 N M
  gy : Gos wr A2 U2 X2 g2 p2 ops m2 N M
  apart : ∀ k, Foot A1 U1 X1 k → ¬ Foot A2 U2 X2 k
  bel : Below B w0 wr
  b0 : B ≤ w0.heap.size
  b1 : B ≤ A1
  b2 : B ≤ A2
theorem Gos.foot_ge {w : World} {A U gb N M : Nat} {X : Nat → Prop} {p : GP} {ops : List TOp} {m : GM} (h : Gos w A U X gb p ops m N M) {k : Nat} (hk : Foot A U X k) : A ≤ k := by
  rcases hk with e | e
  · exact e.1
  · have := (h.xU k e).1; have := h.inG.1; omega
namespace Two
variable {w0 wr w' : World} {B A1 U1 g1 A2 U2 g2 N N' M : Nat} {X1 X2 : Nat → Prop} {p1 p2 : GP} {m1 m2 m' : GM} {ops : List TOp}
theorem chg (h : Two w0 wr B A1 U1 X1 g1 p1 m1 A2 U2 X2 g2 p2 m2 ops N M) {S : Nat → Prop} (hc : Chg S wr w') (hS : ∀ k, S k → ¬ Foot A1 U1 X1 k ∧ ¬ Foot A2 U2 X2 k ∧ B ≤ k) : Two w0 w' B A1 U1 X1 g1 p1 m1 A2 U2 X2 g2 p2 m2 ops N M :=
  ⟨h.gx.chg hc (fun k hk => (hS k hk).1), h.gy.chg hc (fun k hk => (hS k hk).2.1), h.apart, h.bel.trans (hc.below (Nat.le_trans h.b0 (by have := h.bel.size; omega)) (fun k hk e => by have := (hS k e).2.2; omega)), h.b0, h.b1, h.b2⟩
theorem below (h : Two w0 wr B A1 U1 X1 g1 p1 m1 A2 U2 X2 g2 p2 m2 ops N M) (hb : Below wr.heap.size wr w') : Two w0 w' B A1 U1 X1 g1 p1 m1 A2 U2 X2 g2 p2 m2 ops N M :=
  h.chg (Chg.of_below hb) (fun k hk => ⟨h.gx.out hk, h.gy.out hk, by have := h.bel.size; have := h.b0; omega⟩)
theorem doX (h : Two w0 wr B A1 U1 X1 g1 p1 m1 A2 U2 X2 g2 p2 m2 ops N M) (hN : N ≤ N') (hp : DoP wr A1 U1 X1 g1 p1 ops m' N' M w') : ∃ X', (∀ j, X' j → X1 j ∨ wr.heap.size ≤ j) ∧ Two w0 w' B A1 U1 X' g1 p1 m' A2 U2 X2 g2 p2 m2 ops N' M := by
  obtain ⟨hc, X', hX, hg⟩ := hp
  refine ⟨X', hX, hg, (h.gy.chg hc (fun k hk => h.apart k hk)).mono hN, fun k hk hk2 => ?_, h.bel.trans (hc.below (by have := h.bel.size; have := h.b0; omega) (fun k hk e => by have := h.gx.foot_ge e; have := h.b1; omega)), h.b0, h.b1, h.b2⟩
  have hlt := h.gy.foot_lt hk2
  rcases hk with e | e
  · exact h.apart k (.inl e) hk2
  · rcases hX k e with e2 | e2
    · exact h.apart k (.inr e2) hk2
    · omega
end Two
theorem DoP.of_dlv {w w' : World} {A U gb N M : Nat} {X : Nat → Prop} {p : GP} {ops : List TOp} {m : GM} (h1 : Chg (Foot A U X) w w') (h2 : Gos w' A U X gb p ops m N M) : DoP w A U X gb p ops m N M w' := ⟨h1, X, fun j hj => .inl hj, h2⟩
/-- A row of counts whose first i numbers have turned. -/
def RowB (wr : World) (a : Option Addr) (L : List TCount) (i lo hi : Nat) : Prop :=
  L = [] ∨ ∃ g cells, a = some ⟨g, 0, none⟩ ∧ Blk wr g cells 67 ∧ lo ≤ g ∧ g < hi ∧ L.length * 4 ≤ cells.size ∧ ∀ j (h : j < L.length), ∀ t, t < 4 → (t < 3 ∨ i ≤ j) → cells[j * 4 + t]? = (encK L[j])[t]?
theorem RowB.chg {wr w' : World} {a : Option Addr} {L : List TCount} {i lo hi : Nat} {S : Nat → Prop} (h : RowB wr a L i lo hi) (hc : Chg S wr w') (hS : ∀ g, lo ≤ g → g < hi → ¬ S g) : RowB w' a L i lo hi := by
  rcases h with h | ⟨g, cells, h1, h2, h3, h4, h5, h6⟩
  · exact .inl h
  · exact .inr ⟨g, cells, h1, h2.chg hc (hS g h3 h4), h3, h4, h5, h6⟩
theorem RowB.at' {wr : World} {a : Option Addr} {L : List TCount} {i lo hi : Nat} (h : RowB wr a L i lo hi) {j : Nat} (hj : j < L.length) (hij : i ≤ j) : ∃ g, a = some ⟨g, 0, none⟩ ∧ lo ≤ g ∧ g < hi ∧ wr.cell? ⟨g, j * 4, none⟩ = some (.int .i64 L[j].fS.fLoc) ∧ wr.cell? ⟨g, j * 4 + 1, none⟩ = some (.int .i64 L[j].fS.fT.fEpoch) ∧ wr.cell? ⟨g, j * 4 + 2, none⟩ = some (.int .i64 L[j].fS.fT.fRound) ∧ wr.cell? ⟨g, j * 4 + 3, none⟩ = some (.int .i64 L[j].fN) ∧ (∀ o, wr.frozen? ⟨g, o, none⟩ = false) ∧ g < wr.heap.size ∧
    ∀ (w3 : World) (v : Value), RowB w3 a L i lo hi → RowB (w3.setCell ⟨g, i * 4 + 3, none⟩ v) a L (i + 1) lo hi := by
  rcases h with h | ⟨g, cells, h1, h2, h3, h4, h5, h6⟩
  · rw [h] at hj; simp at hj
  · refine ⟨g, h1, h3, h4, h2.cellAt (h6 j hj 0 (by omega) (.inl (by omega))), h2.cellAt (h6 j hj 1 (by omega) (.inl (by omega))), h2.cellAt (h6 j hj 2 (by omega) (.inl (by omega))), h2.cellAt (h6 j hj 3 (by omega) (.inr hij)), fun o => h2.frozen o, h2.lt, fun w3 v h => ?_⟩
    rcases h with h | ⟨g', cells', q1, q2, q3, q4, q5, q6⟩
    · exact .inl h
    · obtain rfl : g = g' := by rw [h1] at q1; simpa using q1
      refine .inr ⟨g, _, q1, q2.set (i * 4 + 3) v, q3, q4, by simpa using q5, fun j' hj' t ht hc => ?_⟩
      rw [Array.getElem?_setIfInBounds]
      by_cases e : i * 4 + 3 = j' * 4 + t
      · exfalso
        rcases hc with hc | hc
        · omega
        · omega
      · rw [if_neg e]
        exact q6 j' hj' t ht (by omega)
end Go.Proofs.YtjmbafcpbagpdaaGreat
