/- Queue: All: what is in it, in order (ints). -/
import Derived.Test.YtoiaijfmppbodaaQc
import Derived.Test.YtoiaijfmppbodaaL7
import Derived.Deep.Cut
import Derived.Deep.CutBlock
namespace Go.Proofs.Ytoiaijfmppbodaa
open Go.RowKit Go.Shelf
attribute [local go_sem] Oper.semAt_some
set_option linter.unusedVariables false

/-- All blocks from n0 on stay, but the loop's own record at n0 + 1. -/
structure KpR (n0 : Nat) (W W' : World) : Prop where
  size : W.heap.size ≤ W'.heap.size
  same : ∀ k o, n0 ≤ k → k ≠ n0 + 1 → W.heap[k]? = some o → W'.heap[k]? = some o
namespace KpR
theorem refl (n0 : Nat) (W : World) : KpR n0 W W := ⟨Nat.le_refl _, fun _ _ _ _ h => h⟩
theorem trans {n0 : Nat} {A B C : World} (h : KpR n0 A B) (k : KpR n0 B C) : KpR n0 A C := ⟨Nat.le_trans h.size k.size, fun i o h1 h2 h3 => k.same i o h1 h2 (h.same i o h1 h2 h3)⟩
theorem put (n0 : Nat) (W : World) (o : Obj) : KpR n0 W (W.putObj (n0 + 1) o) :=
  ⟨Nat.le_of_eq (by simp [World.putObj]), fun k o _ h2 h3 => by rw [World.putObj_heap_other h2]; exact h3⟩
theorem cells {n0 n1 : Nat} {W W' : World} (h : KpR n0 W W') (hn : n0 + 2 ≤ n1) : KpC n1 W W' := ⟨h.size, fun k cs T h1 h2 => h.same k _ (by omega) (by omega) h2⟩
theorem «from» {n0 B : Nat} {W W' : World} (h : KpR n0 W W') (hn : n0 + 2 ≤ B) : KeepsFrom B W W' := ⟨h.size, fun k o h1 h2 _ => h.same k o (by omega) (by omega) h2⟩
end KpR

theorem QS.below {w w' : World} {tq te : TypeId} {b rb n first count B : Nat} {ring : Array Value} (h : QS w tq te b rb n first count ring) (k : Below B w w') (h1 : b < B) (h2 : rb < B) : QS w' tq te b rb n first count ring :=
  ⟨h.hn, h.hN, h.hf, h.hc, h.hne, by have := h.hb; unfold Blk at this ⊢; rw [k.block _ h1]; exact this, by have := h.hr; unfold Blk at this ⊢; rw [k.block _ h2]; exact this, h.hs⟩

/-- The same, but no panic: what a walk that meets none may show. -/
def noP (Q : Exit → Act → World → Prop) : Exit → Act → World → Prop
  | .panic _, _, _ => False
  | e, a, w => Q e a w
theorem noP_out (Q : Exit → Act → World → Prop) : ∀ e a w, noP Q e a w → Q e a w := by
  intro e a w h
  cases e <;> first | exact h | exact h.elim

theorem ownFrom_mono {β : Type} {B B' : Nat} {I : β → World → Prop} (h : OwnFrom B I) (hB : B ≤ B') : OwnFrom B' I := fun s X Y row hs hg hr => h s X Y row hs hg (fun r e => ⟨Nat.le_trans hB (hr r e).1, (hr r e).2⟩)
theorem _root_.Go.OwnFrom.below {β : Type} {B : Nat} {J : β → World → Prop} {s : β} {W W' : World} (hJ : OwnFrom B J) (h0 : J s W) (hb : Below W.heap.size W W') : J s W' :=
  hJ s W W' none h0 ⟨hb.os, hb.tape, hb.output, hb.size, fun i hi _ => hb.block i hi⟩ (fun r e => by cases e)

/-- A round of an outer loop, called from within a round. -/
theorem round_wide {n m l2 : Nat} {P : Program} {l : Nat} {f : FuncId} {tmps : Array Value} {assign body : Code} {w : World} {R : Ending → World → Prop} (h : RoundIn Fence.wide n P l f tmps assign body w R) : RoundIn (Fence.wide.inRound l2) m P l f tmps assign body w R :=
  ⟨trivial, fun c cs _ => h.2 c cs (room_wide _)⟩

theorem qall_any (b : Nat) (w : World) : Calls Try.prog 20 #[.pointer (some ⟨b, 0, none⟩)] w fun e w' => e = .returned (.func (.func 24) #[] #[.pointer (some ⟨w.heap.size, 0, none⟩)]) ∧ w' = w.alloc (.cells #[.pointer (some ⟨b, 0, none⟩)] 35) := by
  go_enter Try.func20, Try.ntmps20
  go_wp2
  go_ret
  exact ⟨rfl, rfl⟩

theorem infoN : (Try.prog.info? 3).map (fun i => (i.zero, i.size, i.bytes)) = some (some (.int .i64 0), 1, 8) := by kernel_rfl

set_option maxRecDepth 100000 in
set_option maxHeartbeats 4000000 in
theorem qall_stops (n : Nat) (hn : 2 ≤ n) (bq b rb c : Nat) (zs : List Int) (w : World) (hbq : w.cell? ⟨bq, 0, none⟩ = some (.pointer (some ⟨b, 0, none⟩))) (hQ : QL w 61 3 b rb c (zs.map (Value.int .i64 ·))) :
    SeqStopsR Fence.wide n Try.prog 24 #[.pointer (some ⟨bq, 0, none⟩)] (fun x : Nat × Int => #[Value.int .i64 (x.1 : Int), Value.int .i64 x.2]) (KpR w.heap.size) (fun ys => ys = pairs zs) (fun pre => pre <+: pairs zs) zs.length w := fun l J Jx W hW hz2 hJ hJx hY h0 => by
  have hbq' := (hW.cell (World.lt_of_cell hbq)).trans hbq
  obtain ⟨first, ring, hS, hx⟩ := hQ
  have hsz := hW.size
  have hbW : b < w.heap.size := hS.hb.lt
  have hrW : rb < w.heap.size := hS.hr.lt
  have hS' := hS.below hW hbW hrW
  obtain ⟨n0, hn0⟩ : ∃ n0, n0 = w.heap.size := ⟨_, rfl⟩
  rw [← hn0] at hsz hY hbW hrW hz2
  rw [List.length_map] at hS' hx
  obtain ⟨m, hm⟩ : ∃ m, m = zs.length := ⟨_, rfl⟩
  have hring : ∀ i (h : i < zs.length), ring[(first + i) % c]? = some (.int .i64 zs[i]) := fun i h => by
    rw [hx i h]
    simp [h]
  rw [← hm] at hS'
  have hmc := hS'.hc
  have hc64 := hS'.hN
  obtain ⟨ii, hiN, hi0, hi1, hi2⟩ : ∃ i, Try.prog.info? 3 = some i ∧ i.zero = some (.int .i64 0) ∧ i.size = 1 ∧ i.bytes = 8 := by
    have := infoN
    cases hi : Try.prog.info? 3 with
    | none => rw [hi] at this; cases this
    | some i => rw [hi] at this; simp at this; exact ⟨i, rfl, this.1, this.2.1, this.2.2⟩
  replace hJ := Lib.hid hJ
  replace hJx := Lib.hid hJx
  replace hY := Lib.hid hY
  replace h0 := Lib.hid h0
  replace hring := Lib.hid hring
  replace hm := Lib.hid hm
  clear hbq hW hn0 hS hx
  refine callsIn_of_wp_marks Try.func24 rfl trivial ?_ rfl
  simp only [Try.ntmps24, List.size_toArray, List.length_cons, List.length_nil, Nat.reduceAdd, Nat.reduceSub, Array.replicate_succ, Array.replicate_zero, List.push_toArray, List.append_toArray, List.nil_append, List.cons_append]
  refine wpIn_mono (c := _) ?_ (noP_out _)
  refine wpIn_wide.2 ?_
  obtain ⟨W1, hW1⟩ : ∃ W1, W1 = W.alloc (.cells #[.func (.yield l) #[] #[]] 33) := ⟨_, rfl⟩
  go_upto_region 1 with fail
  rw [← hW1]
  have hb1 : Below W.heap.size W W1 := by rw [hW1]; exact (Below.refl _ _).alloc (Nat.le_refl _) _
  have hW1s : W1.heap.size = W.heap.size + 1 := by rw [hW1]; simp
  have hY1 : Blk W1 W.heap.size #[.func (.yield l) #[] #[]] 33 := by rw [hW1]; exact Blk.new _ _ _
  have hg1 : Chg (fun _ => False) W W1 := by rw [hW1]; exact (Chg.refl _ _).alloc _
  have hS1 := hS'.chg hg1 (fun h => h) (fun h => h)
  have hq1 : W1.cell? ⟨bq, 0, none⟩ = some (.pointer (some ⟨b, 0, none⟩)) := (hb1.cell (World.lt_of_cell hbq')).trans hbq'
  have hbqW := World.lt_of_cell hbq'
  have c2 := hS1.c2
  clear hW1 hg1 hS'
  go_wp2_with fail
  go_loopw [13, 3] (fun x13 x3 wr => ∃ i, i ≤ m ∧ x13 = .int .i64 i ∧ OwnL encN wr W1.heap.size 3 1 x3 (zs.take i) ∧ Below W1.heap.size W1 wr) (fun x13 _ _ => m - (intOf x13).toNat)
  case atStart => exact ⟨0, Nat.zero_le _, rfl, OwnL.nil _ _ _ _ _, Below.refl _ _⟩
  case round =>
    obtain ⟨i, him, rfl, hown, hbr⟩ := hrel
    by_cases hi : i < m
    · have hiz : i < zs.length := by rw [← hm.out]; exact hi
      have hqr := (hbr.cell (World.lt_of_cell hq1)).trans hq1
      obtain ⟨z, hz⟩ : ∃ z, zs[i] = z := ⟨_, rfl⟩
      have hSr := hS1.below hbr hS1.hb.lt hS1.hr.lt
      have hcz : wr.cell? ⟨rb, (first + i) % c, none⟩ = some (.int .i64 z) := hSr.hr.cellAt (by rw [hring.out i hiz, hz])
      have hc0 := hSr.c0
      obtain ⟨j, hj⟩ : ∃ j, j = (first + i) % c := ⟨_, rfl⟩
      have hjc : j < c := by rw [hj]; exact Nat.mod_lt _ (by omega)
      rw [← hj] at hcz
      replace hj := Lib.hid hj
      replace hz := Lib.hid hz
      have hSd := hSr.chg ((Chg.refl (fun _ => False) wr).drew) (fun h => h) (fun h => h)
      have hat := Qint.at_any wr.drew 61 3 b rb c first m i j ring hSd (by omega) hj
      go_upto_region 6 with fail
      refine wp_region_tree (fun wx => wx.cell? ⟨bq, 0, none⟩ = some (.pointer (some ⟨b, 0, none⟩)) ∧ wx.cell? ⟨b, 0, none⟩ = some (.slice (some ⟨rb, 0, none⟩) c c) ∧ wx.cell? ⟨rb, j, none⟩ = some (.int .i64 z)) 12 13 (by kernel_rfl) rfl (by kernel_rfl) (fun d _ _ _ _ h => by cases d <;> exact h) (⟨hqr, hc0, hcz⟩) (fun opz T hOps hT hTok hHeld => ?_)
      (refine wpTree_q 0 hTok hOps (by kernel_rfl) rfl rfl ⟨?_, ?_, ?_⟩; rotate_left; (focus (intro wx hSx; (try dsimp only at hSx); go_simp; (try with_reducible rfl))); (simp only [Act.put, List.setIfInBounds_toArray, List.set_cons_zero, List.set_cons_succ]))
      (refine wpTree_q 1 hTok hOps (by kernel_rfl) rfl rfl ⟨?_, ?_, ?_⟩; rotate_left; (focus (intro wx hSx; (try dsimp only at hSx); go_simp; (try with_reducible rfl))); (simp only [Act.put, List.setIfInBounds_toArray, List.set_cons_zero, List.set_cons_succ]))
      (refine wpTree_q 2 hTok hOps (by kernel_rfl) rfl rfl ⟨?_, ?_, ?_⟩; rotate_left; (focus (intro wx hSx; (try dsimp only at hSx); go_simp; (try with_reducible rfl))); (simp only [Act.put, List.setIfInBounds_toArray, List.set_cons_zero, List.set_cons_succ]))
      (refine wpTree_q 3 hTok hOps (by kernel_rfl) rfl rfl ⟨?_, ?_, ?_⟩; rotate_left; (focus (intro wx hSx; (try dsimp only at hSx); go_simp; (try with_reducible rfl))); (simp only [Act.put, List.setIfInBounds_toArray, List.set_cons_zero, List.set_cons_succ]))
      (refine wpTree_q 4 hTok hOps (by kernel_rfl) rfl rfl ⟨?_, ?_, ?_⟩; rotate_left; (focus (intro wx hSx; (try dsimp only at hSx); go_simp; (try with_reducible rfl))); (simp only [Act.put, List.setIfInBounds_toArray, List.set_cons_zero, List.set_cons_succ]))
      (refine wpTree_q 5 hTok hOps (by kernel_rfl) rfl rfl ⟨?_, ?_, ?_⟩; rotate_left; (focus (intro wx hSx; (try dsimp only at hSx); go_simp; (try with_reducible rfl))); (simp only [Act.put, List.setIfInBounds_toArray, List.set_cons_zero, List.set_cons_succ]))
      (refine wpTree_q 6 hTok hOps (by kernel_rfl) rfl rfl ⟨?_, ?_, ?_⟩; rotate_left; (focus (intro wx hSx; (try dsimp only at hSx); go_simp; (try with_reducible rfl))); (simp only [Act.put, List.setIfInBounds_toArray, List.set_cons_zero, List.set_cons_succ]))
      refine wpTree_1 7 hOps (by kernel_rfl) (by decide) rfl (fun K' hK => ?_)
      go_simp
      refine hat.mono ?_
      rintro e w5 ⟨rfl, dr, rfl⟩
      dsimp only
      refine hK.out _ _ ⟨hqr, hc0, hcz⟩ ?_
      clear hK K'
      try simp only [Act.put, List.setIfInBounds_toArray, List.set_cons_zero, List.set_cons_succ]
      (refine wpTree_q 8 hTok hOps (by kernel_rfl) rfl rfl ⟨?_, ?_, ?_⟩; rotate_left; (focus (intro wx hSx; (try dsimp only at hSx); go_simp; (try with_reducible rfl))); (simp only [Act.put, List.setIfInBounds_toArray, List.set_cons_zero, List.set_cons_succ]))
      (refine wpTree_q 9 hTok hOps (by kernel_rfl) rfl rfl ⟨?_, ?_, ?_⟩; rotate_left; (focus (intro wx hSx; (try dsimp only at hSx); go_simp; (try with_reducible rfl))); (simp only [Act.put, List.setIfInBounds_toArray, List.set_cons_zero, List.set_cons_succ]))
      refine wpTree_world ?_
      intro w6 hw6
      have hown6 : OwnL encN w6 W1.heap.size 3 1 u3 (zs.take i) := by rw [hw6]; exact hown
      have hb6 : Below W1.heap.size W1 w6 := by rw [hw6]; exact below_drewN (hbr.trans ((Below.refl _ _).drew)) _
      have hh6 : w6.cell? ⟨bq, 0, none⟩ = some (.pointer (some ⟨b, 0, none⟩)) ∧ w6.cell? ⟨b, 0, none⟩ = some (.slice (some ⟨rb, 0, none⟩) c c) ∧ w6.cell? ⟨rb, j, none⟩ = some (.int .i64 z) := by rw [hw6]; exact ⟨hqr, hc0, hcz⟩
      clear hw6 hown hbr hSr hSd hat hqr hc0 hcz hHeld
      refine wpTree_1 10 hOps (by kernel_rfl) (by decide) rfl (fun K' hK => ?_)
      go_simp
      have hba : Below w6.heap.size w6 (w6.alloc (.cells #[.int .i64 z] 3)) := (Below.refl _ _).alloc (Nat.le_refl _) _
      refine hK.out _ _ ⟨(hba.cell (World.lt_of_cell hh6.1)).trans hh6.1, (hba.cell (World.lt_of_cell hh6.2.1)).trans hh6.2.1, (hba.cell (World.lt_of_cell hh6.2.2)).trans hh6.2.2⟩ ?_
      clear hK K' hba
      try simp only [Act.put, List.setIfInBounds_toArray, List.set_cons_zero, List.set_cons_succ]
      refine wpTree_1 11 hOps (by kernel_rfl) (by decide) rfl (fun K' hK => ?_)
      change if _ = true then Oper.wp _ _ _ (w6.alloc (.cells (encN z).toArray 3)) _ _ else _
      have hle : (zs.take i).length ≤ 64 := by rw [List.length_take]; omega
      refine step_app1g rfl _ _ 34 rfl Try.underlying34 hiN hi0 hi1 hi2 rfl (by decide) (enc := encN) z rfl hown6 rfl rfl (encN_one _) (by omega) (by unfold maxLen; omega) hb6.size ?_
      intro g cap w7 hown7 hgr
      have hb67 : Below W1.heap.size w6 w7 := (Below.refl _ w6).grown hgr.grown hb6.size (fun k hk => (hown6.lt k hk).1)
      have hlq : bq < W1.heap.size := World.lt_of_cell hq1
      have hlb : b < W1.heap.size := hS1.hb.lt
      have hlr : rb < W1.heap.size := hS1.hr.lt
      refine hK.out _ _ ⟨(hb67.cell (p := ⟨bq, 0, none⟩) hlq).trans hh6.1, (hb67.cell (p := ⟨b, 0, none⟩) hlb).trans hh6.2.1, (hb67.cell (p := ⟨rb, j, none⟩) hlr).trans hh6.2.2⟩ ?_
      clear hK K'
      try simp only [Act.put, List.setIfInBounds_toArray, List.set_cons_zero, List.set_cons_succ]
      refine wpTree_nil hOps (by kernel_rfl) ?_
      refine hT.out _ _ ?_
      simp only [List.drop_succ_cons, List.drop_zero]
      have hb7 := hb6.trans hb67
      rw [← hz.out, ← List.take_succ_eq_append_getElem hiz] at hown7
      have hl7 : (zs.take i).length + 1 = (zs.take (i + 1)).length := by rw [List.length_take, List.length_take]; omega
      rw [hl7] at hown7 ⊢
      clear hOps hT hTok hb6 hb67 hown6 hh6 hgr
      go_wp2_with fail
      go_roundw
      case rel => exact ⟨i + 1, by omega, by go_num, hown7, hb7⟩
      case measure => simp [intOf]; omega
    · obtain rfl : i = m := by omega
      rw [List.take_of_length_le (show zs.length ≤ i by rw [← hm.out]; exact Nat.le_refl _)] at hown
      obtain ⟨ao, cap, rfl, _, _, _⟩ := hown.slice
      have hl64 : zs.length ≤ 64 := by rw [← hm.out]; omega
      have hYr := hY1.below hbr (by rw [hW1s]; omega)
      go_wp2_with fail
      refine (callsIn_wide.1 (sall_in Fence.wide 8 trivial rfl ao zs.length cap wr)).mono ?_
      rintro e w7 ⟨rfl, hw7⟩
      have hb7 : Below wr.heap.size wr w7 := by rw [hw7]; exact (Below.refl _ _).alloc (Nat.le_refl _) _
      have hc7 : w7.cell? ⟨wr.heap.size, 0, none⟩ = some (.slice ao zs.length cap) := by rw [hw7]; exact (Blk.new wr _ _).cellAt rfl
      have hown7 := hown.below hb7 (Nat.le_refl _)
      have hY7 := hYr.below hb7 hYr.lt
      have hz1 : n0 + 2 ≤ W1.heap.size := by omega
      have hz7 : n0 + 2 ≤ w7.heap.size := by have := hb7.size; have := hbr.size; have := hb1.size; omega
      have hJ7 : J [] w7 := hJ.out.below h0.out (hb1.trans ((hbr.mono (by rw [hW1s]; omega)).trans (hb7.mono (by have := hbr.size; omega))))
      have hWz : W.heap.size ≤ w7.heap.size := by have := hb7.size; have := hbr.size; omega
      clear hw7 hown hYr hb7
      go_upto_region 100 with fail
      refine (wpIn_wide (n := n)).1 ?_
      refine wpIn_rangeFunc_ownG (α := Nat × Int) rfl (by omega) (gf := 28) (lb := #[.pointer (some ⟨wr.heap.size, 0, none⟩)]) rfl trivial (enters_of Try.func28 (by kernel_rfl) rfl)
        (sall_stops Fence.wide (n - 1) trivial rfl (by omega) wr.heap.size W1.heap.size _ zs (by omega) w7 hc7 hown7) KpC.trans (fun X k o o' h1 h2 h3 h4 => KpC.put o' h2 h3) (Below.refl _ _) (fun _ => rfl)
        (fun pre X => J pre X ∧ Blk X W.heap.size #[.func (.yield l) #[] #[]] 33)
        (fun c pre X => c = .ret ∧ Jx pre X) (OwnFrom.and (ownFrom_mono hJ.out hWz) (Own.from (boxed_own _ _ (fun _ => .func (.yield l) #[] #[])) _)) (fun c => OwnFrom.and (ownFrom_pure _ (fun _ => c = .ret)) (ownFrom_mono hJx.out hWz)) ⟨hJ7, hY7⟩ ?a1 ?assign ?body ?done ?stop
      case assign =>
        intro l x W K hK
        gi_wp2
        exact hK
      case body =>
        rintro l2 pre x W8 ⟨hJ8, hB8⟩ hpl
        obtain ⟨fn, tmps, assign, body, hy, hR⟩ := hY.out pre x W8 hJ8 hpl
        have hyc := hB8.cellAt (i := 0) (v := .func (.yield l) #[] #[]) rfl
        gi_wp2
        refine ⟨(fun h => by cases h), RoundIn.mono (R := fun e W' => (e = .returned (.bool true) ∧ J (pre ++ [x]) W' ∧ KpR n0 W8 W') ∨ (e = .returned (.bool false) ∧ Jx (pre ++ [x]) W' ∧ KpR n0 W8 W')) (round_wide hR) ?_⟩
        rintro e W3 (⟨rfl, hJ3, hk3⟩ | ⟨rfl, hJx3, hk3⟩)
        · gi_wp2
          exact ⟨hk3.from hz7, hk3.cells hz1, hJ3, hk3.same _ _ (by omega) (by omega) hB8⟩
        · gi_wp2
          exact ⟨hk3.from hz7, rfl, hJx3⟩
      case done =>
        rintro D ys W9 hD rfl ⟨hJ9, hB9⟩ hK
        try dsimp only
        go_wp2_with fail
        refine ⟨by simp, .inl ⟨_, _, rfl, run_takeDeferred hK, ?_⟩⟩
        exact ⟨_, results_none rfl _ _ _, ⟨_, rfl⟩, .inl ⟨_, rfl, hJ.out.putObj _ hJ9 (by omega) hK rfl⟩⟩
      case stop =>
        rintro D c pre W9 hD hpre ⟨rfl, hJ9⟩ hK
        try dsimp only
        gi_wp2
        refine ⟨by simp, .inl ⟨_, _, rfl, run_takeDeferred hK, ?_⟩⟩
        exact ⟨_, results_none rfl _ _ _, ⟨_, rfl⟩, .inr ⟨_, hpre, hJx.out.putObj _ hJ9 (by omega) hK rfl⟩⟩
end Go.Proofs.Ytoiaijfmppbodaa
