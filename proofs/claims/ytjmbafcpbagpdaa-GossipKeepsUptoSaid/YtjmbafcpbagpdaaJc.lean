/- Gossip: Done. -/
import Derived.Test.YtjmbafcpbagpdaaJb
namespace Go.Proofs.Ytjmbafcpbagpdaa
open Go.RowKit Go.Shelf Go.Maps
set_option linter.unusedVariables false
set_option linter.unusedSimpArgs false

theorem gdone_no (k : Int) (s : TStamp) (v : Value) (w : World) (hth : ∀ W, Below w.heap.size w W → Calls Try.prog 25 #[v, .int .i64 k] W fun e w' => e = .returned (.bool false) ∧ w' = W) :
    Calls Try.prog 13 #[v, .int .i64 k, mkS s] w fun e w' => e = .returned (.bool false) ∧ Below w.heap.size w w' := by
  obtain ⟨l, ⟨e, r⟩⟩ := s
  unfold mkS
  dsimp only
  replace hth := Lib.hid hth
  go_enter Try.func13, Try.ntmps13
  go_upto_region 1 with fail
  refine Code.wp_world ?_
  intro w1 hw1
  have h01 : Below w.heap.size w w1 := by rw [hw1]; exact below_allocJ _ _
  clear hw1
  refine wp_region_tree (fun wx => True) 12 15 (by kernel_rfl) rfl (by kernel_rfl) (fun d _ _ _ _ h => by cases d <;> exact h) (trivial) (fun opz T hOps hT hTok hHeld => ?_)
  have h02 : Below w.heap.size w w1.drew := h01.drew
  generalize w1.drew = w2 at h02 hHeld ⊢
  (refine wpTree_q 0 hTok hOps (by kernel_rfl) rfl rfl ⟨?_, ?_, ?_⟩; rotate_left; (focus (intro wx hSx; (try dsimp only at hSx); go_simp; (try with_reducible rfl))); (simp only [Act.put, List.setIfInBounds_toArray, List.set_cons_zero, List.set_cons_succ]))
  (refine wpTree_q 1 hTok hOps (by kernel_rfl) rfl rfl ⟨?_, ?_, ?_⟩; rotate_left; (focus (intro wx hSx; (try dsimp only at hSx); go_simp; (try with_reducible rfl))); (simp only [Act.put, List.setIfInBounds_toArray, List.set_cons_zero, List.set_cons_succ]))
  refine wpTree_1 2 hOps (by kernel_rfl) (by decide) rfl (fun K' hK => ?_)
  go_simp
  refine (hth.out _ h02).mono ?_
  rintro e w3 ⟨rfl, hw3⟩
  rw [hw3]
  clear hw3 w3
  try dsimp only
  refine hK.out _ _ trivial ?_
  clear hK K'
  try simp only [Act.put, List.setIfInBounds_toArray, List.set_cons_zero, List.set_cons_succ]
  (refine wpTree_q 3 hTok hOps (by kernel_rfl) rfl rfl ⟨?_, ?_, ?_⟩; rotate_left; (focus (intro wx hSx; (try dsimp only at hSx); go_simp; (try with_reducible rfl))); (simp only [Act.put, List.setIfInBounds_toArray, List.set_cons_zero, List.set_cons_succ]))
  (refine wpTree_qn 4 hTok hOps (by kernel_rfl) rfl rfl ?_; (try simp only [Act.put, List.setIfInBounds_toArray, List.set_cons_zero, List.set_cons_succ]))
  (refine wpTree_qn 5 hTok hOps (by kernel_rfl) rfl rfl ?_; (try simp only [Act.put, List.setIfInBounds_toArray, List.set_cons_zero, List.set_cons_succ]))
  (refine wpTree_qn 6 hTok hOps (by kernel_rfl) rfl rfl ?_; (try simp only [Act.put, List.setIfInBounds_toArray, List.set_cons_zero, List.set_cons_succ]))
  (refine wpTree_qn 7 hTok hOps (by kernel_rfl) rfl rfl ?_; (try simp only [Act.put, List.setIfInBounds_toArray, List.set_cons_zero, List.set_cons_succ]))
  (refine wpTree_qn 8 hTok hOps (by kernel_rfl) rfl rfl ?_; (try simp only [Act.put, List.setIfInBounds_toArray, List.set_cons_zero, List.set_cons_succ]))
  (refine wpTree_qn 9 hTok hOps (by kernel_rfl) rfl rfl ?_; (try simp only [Act.put, List.setIfInBounds_toArray, List.set_cons_zero, List.set_cons_succ]))
  (refine wpTree_qn 10 hTok hOps (by kernel_rfl) rfl rfl ?_; (try simp only [Act.put, List.setIfInBounds_toArray, List.set_cons_zero, List.set_cons_succ]))
  (refine wpTree_qn 11 hTok hOps (by kernel_rfl) rfl rfl ?_; (try simp only [Act.put, List.setIfInBounds_toArray, List.set_cons_zero, List.set_cons_succ]))
  refine wpTree_nil hOps (by kernel_rfl) ?_
  refine hT.out _ _ ?_
  simp only [List.drop_succ_cons, List.drop_zero]
  clear hOps hT hTok
  try clear hHeld
  go_wp2_with fail
  go_ret
  exact ⟨rfl, h02⟩
theorem gdone_nil (k : Int) (s : TStamp) (w : World) : Calls Try.prog 13 #[.pointer none, .int .i64 k, mkS s] w fun e w' => e = .returned (.bool false) ∧ Below w.heap.size w w' :=
  gdone_no k s (.pointer none) w (fun W _ => there_nil k W)
open Classical in
theorem gdone_any (k : Int) (s : TStamp) {w : World} {A U gb N M : Nat} {X : Nat → Prop} {p : GP} {ops : List TOp} {m : GM} (h : Gos w A U X gb p ops m N M) (hN : (N + 1) * 24 ≤ 140737488355328) :
    Calls Try.prog 13 #[.pointer (some ⟨gb, 0, none⟩), .int .i64 k, mkS s] w fun e w' => e = .returned (.bool (decide (0 ≤ k ∧ k < m.n) && doneF ops (m.c (k.toNat + 1)) s)) ∧ Below w.heap.size w w' := by
  have h8 := h.n8
  by_cases hk : 0 ≤ k ∧ k < m.n
  rotate_left
  · rw [decide_eq_false hk, Bool.false_and]
    refine gdone_no k s _ w (fun W hb => ?_)
    have := (h.below hb).there k
    rw [decide_eq_false hk] at this
    exact this
  rw [decide_eq_true hk, Bool.true_and]
  obtain ⟨j, rfl⟩ : ∃ j : Nat, k = j := ⟨k.toNat, by omega⟩
  rw [Int.toNat_natCast]
  have hj : j < m.n := by omega
  have hth := fun W (hb : Below w.heap.size w W) => by
    have := (h.below hb).there j
    rw [decide_eq_true hk] at this
    exact this
  have c2 := h.gcell2
  have cv := h.vcell hj
  have hgl : gb < w.heap.size := World.lt_of_cell c2
  have hvl : p.vb < w.heap.size := World.lt_of_cell cv
  obtain ⟨⟨cs, hT, hcs, hcl⟩, _, _⟩ := h.trs (j + 1) (by omega)
  have hf := fun W (hb : Below w.heap.size w W) => tdone_any s W (hT.below hb) (by omega)
  rw [done_cs hT.nodup, hcs] at hf
  obtain ⟨n, hn⟩ : ∃ n, n = m.n := ⟨_, rfl⟩
  obtain ⟨tb, htb⟩ : ∃ tb, tb = (p.tp (j + 1)).tb := ⟨_, rfl⟩
  obtain ⟨vb, hvb⟩ : ∃ vb, vb = p.vb := ⟨_, rfl⟩
  obtain ⟨bR, hbR⟩ : ∃ bR, bR = doneF ops (m.c (j + 1)) s := ⟨_, rfl⟩
  rw [← hbR] at hf ⊢
  rw [← hn] at c2 hj h8
  rw [← htb] at cv hf
  rw [← hvb] at cv c2 hvl
  replace hth := Lib.hid hth
  obtain ⟨l, ⟨e, r⟩⟩ := s
  unfold mkS at hf ⊢
  dsimp only at hf ⊢
  replace hf := Lib.hid hf
  clear h hT hcs hk hn htb hvb hbR
  go_enter Try.func13, Try.ntmps13
  go_upto_region 1 with fail
  refine Code.wp_world ?_
  intro w1 hw1
  have h01 : Below w.heap.size w w1 := by rw [hw1]; exact below_allocJ _ _
  have hS : Blk w1 w.heap.size #[.int .i64 l, .int .i64 e, .int .i64 r] 47 := by rw [hw1]; exact Blk.new _ _ _
  obtain ⟨z, hz⟩ : ∃ z, z = w.heap.size := ⟨_, rfl⟩
  rw [← hz] at hS ⊢
  replace hz := Lib.hid hz
  clear hw1
  have q2 := (h01.cell (p := ⟨gb, 2, none⟩) hgl).trans c2
  have qv := (h01.cell (p := ⟨vb, j, none⟩) hvl).trans cv
  refine wp_region_tree (fun wx => wx.cell? ⟨gb, 2, none⟩ = some (.slice (some ⟨vb, 0, none⟩) n p.vc) ∧ wx.cell? ⟨vb, j, none⟩ = some (.pointer (some ⟨tb, 0, none⟩)) ∧ wx.cell? ⟨z, 0, none⟩ = some (.int .i64 l) ∧ wx.cell? ⟨z, 1, none⟩ = some (.int .i64 e) ∧ wx.cell? ⟨z, 2, none⟩ = some (.int .i64 r)) 12 15 (by kernel_rfl) rfl (by kernel_rfl) (fun d _ _ _ _ h => by cases d <;> exact h) (⟨q2, qv, hS.cellAt rfl, hS.cellAt rfl, hS.cellAt rfl⟩) (fun opz T hOps hT hTok hHeld => ?_)
  have h02 : Below w.heap.size w w1.drew := h01.drew
  generalize w1.drew = w2 at h02 hHeld ⊢
  (refine wpTree_q 0 hTok hOps (by kernel_rfl) rfl rfl ⟨?_, ?_, ?_⟩; rotate_left; (focus (intro wx hSx; (try dsimp only at hSx); go_simp; (try with_reducible rfl))); (simp only [Act.put, List.setIfInBounds_toArray, List.set_cons_zero, List.set_cons_succ]))
  (refine wpTree_q 1 hTok hOps (by kernel_rfl) rfl rfl ⟨?_, ?_, ?_⟩; rotate_left; (focus (intro wx hSx; (try dsimp only at hSx); go_simp; (try with_reducible rfl))); (simp only [Act.put, List.setIfInBounds_toArray, List.set_cons_zero, List.set_cons_succ]))
  refine wpTree_1 2 hOps (by kernel_rfl) (by decide) rfl (fun K' hK => ?_)
  go_simp
  refine (hth.out _ h02).mono ?_
  rintro e w3 ⟨rfl, hw3⟩
  rw [hw3]
  clear hw3 w3
  try dsimp only
  refine hK.out _ _ hHeld ?_
  clear hK K'
  try simp only [Act.put, List.setIfInBounds_toArray, List.set_cons_zero, List.set_cons_succ]
  (refine wpTree_qg 3 hTok hOps (by kernel_rfl) rfl rfl ⟨?_, ?_, ?_⟩; rotate_left; (focus (intro wx hSx; (try dsimp only at hSx); go_simp; (try with_reducible rfl))); (simp only [Act.put, List.setIfInBounds_toArray, List.set_cons_zero, List.set_cons_succ]))
  (refine wpTree_qg 4 hTok hOps (by kernel_rfl) rfl rfl ⟨?_, ?_, ?_⟩; rotate_left; (focus (intro wx hSx; (try dsimp only at hSx); go_simp; (try with_reducible rfl))); (simp only [Act.put, List.setIfInBounds_toArray, List.set_cons_zero, List.set_cons_succ]))
  (refine wpTree_qg 5 hTok hOps (by kernel_rfl) rfl rfl ⟨?_, ?_, ?_⟩; rotate_left; (focus (intro wx hSx; (try dsimp only at hSx); go_simp; (try with_reducible rfl))); (simp only [Act.put, List.setIfInBounds_toArray, List.set_cons_zero, List.set_cons_succ]))
  (refine wpTree_qg 6 hTok hOps (by kernel_rfl) rfl rfl ⟨?_, ?_, ?_⟩; rotate_left; (focus (intro wx hSx; (try dsimp only at hSx); go_simp; (try with_reducible rfl))); (simp only [Act.put, List.setIfInBounds_toArray, List.set_cons_zero, List.set_cons_succ]))
  (refine wpTree_qg 7 hTok hOps (by kernel_rfl) rfl rfl ⟨?_, ?_, ?_⟩; rotate_left; (focus (intro wx hSx; (try dsimp only at hSx); go_simp; (try with_reducible rfl))); (simp only [Act.put, List.setIfInBounds_toArray, List.set_cons_zero, List.set_cons_succ]))
  (refine wpTree_qg 8 hTok hOps (by kernel_rfl) rfl rfl ⟨?_, ?_, ?_⟩; rotate_left; (focus (intro wx hSx; (try dsimp only at hSx); go_simp; (try with_reducible rfl))); (simp only [Act.put, List.setIfInBounds_toArray, List.set_cons_zero, List.set_cons_succ]))
  (refine wpTree_qg 9 hTok hOps (by kernel_rfl) rfl rfl ⟨?_, ?_, ?_⟩; rotate_left; (focus (intro wx hSx; (try dsimp only at hSx); go_simp; (try with_reducible rfl))); (simp only [Act.put, List.setIfInBounds_toArray, List.set_cons_zero, List.set_cons_succ]))
  (refine wpTree_qg 10 hTok hOps (by kernel_rfl) rfl rfl ⟨?_, ?_, ?_⟩; rotate_left; (focus (intro wx hSx; (try dsimp only at hSx); go_simp; (try with_reducible rfl))); (simp only [Act.put, List.setIfInBounds_toArray, List.set_cons_zero, List.set_cons_succ]))
  (refine wpTree_qg 11 hTok hOps (by kernel_rfl) rfl rfl ⟨?_, ?_, ?_⟩; rotate_left; (focus (intro wx hSx; (try dsimp only at hSx); go_simp; (try with_reducible rfl))); (simp only [Act.put, List.setIfInBounds_toArray, List.set_cons_zero, List.set_cons_succ]))
  refine wpTree_nil hOps (by kernel_rfl) ?_
  refine hT.out _ _ ?_
  simp only [List.drop_succ_cons, List.drop_zero]
  clear hOps hT hTok
  try clear hHeld
  go_wp2_with fail
  refine (hf.out _ h02).mono ?_
  rintro e w3 ⟨rfl, hb3⟩
  have hb := h02.trans (hb3.mono h02.size)
  dsimp only
  go_wp2_with fail
  go_ret
  exact ⟨rfl, by first | exact hb | (rw [hz.out]; exact hb)⟩
end Go.Proofs.Ytjmbafcpbagpdaa
