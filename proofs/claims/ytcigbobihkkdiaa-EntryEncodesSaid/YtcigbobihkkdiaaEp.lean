/- Entry: the walk of EntryEncodes. -/
import Derived.Test.YtcigbobihkkdiaaEo
namespace Go.Proofs.Ytcigbobihkkdiaa
open Go.RowKit
set_option linter.unusedVariables false
set_option linter.unusedSimpArgs false

/-- A struct argument's entry. -/
theorem entry_agg {B : Nat} {w : World} {c : Array Value} {x : TEntry} (h : REntry B w (Value.cells (.agg c)).toList x) : ∃ ao cap, c = encE x ao cap ∧ SlA B 7 (ROp B) w ao cap x.fGraph.fOps ∧ wfE x ∧ x.fRec.fKey.size ≤ maxLen := by
  obtain ⟨ao, cap, hc, z0, z1, z2, z3, z4, z5, hs, z7⟩ := h
  have hc' : c.toList = [.int .i64 x.fKind, .int .i64 x.fRec.fProducer, .int .i64 x.fRec.fSeq, .int .i64 x.fRec.fPart, .string x.fRec.fKey, .int .u32 x.fRec.fVal, .slice ao x.fGraph.fOps.length cap, .int .i64 x.fN] := hc
  refine ⟨ao, cap, by unfold encE; rw [← hc'], hs, ⟨z0, z1, z2, z3, z5, z7, ?_⟩, z4⟩
  intro o ho
  obtain ⟨i, hi, rfl⟩ := List.mem_iff_getElem.1 ho
  obtain ⟨b, off, rfl, hb, h7⟩ := hs.addr (by omega)
  obtain ⟨cs', _, _, ao1, cap1, _, w0, w1, w2, w3, w4, w5, w6⟩ := h7 i hi
  refine ⟨w0, ?_, w2, w3, w4, w5, w6⟩
  intro n hn
  obtain ⟨j, hj, rfl⟩ := List.mem_iff_getElem.1 hn
  obtain ⟨b1, off1, rfl, hb1, h8⟩ := w1.addr (by omega)
  obtain ⟨cs2, _, _, _, hw⟩ := h8 j hj
  exact hw

set_option maxRecDepth 100000 in
set_option maxHeartbeats 2000000 in
theorem eencodes_walk (x : TEntry) (ao : Option Addr) (cap : Nat) (w : World) (hx : SlA w.heap.size 7 (ROp w.heap.size) w ao cap x.fGraph.fOps) (hw : wfE x) :
    Calls Try.prog 3 #[.agg (encE x ao cap)] w fun e w' => e = .returned (.bool true) ∧ Below w.heap.size w w' := by
  obtain ⟨z0, z1, z2, z3, z5, z7, _⟩ := hw
  have hG := fun (u : World) (hb : Below w.heap.size w u) => good_any x ao cap u w.heap.size hb.size (ops_imp hx hb)
  have hG2 := fun (u : World) (hb : Below w.heap.size w u) => rgood_any x ao cap u w.heap.size hb.size (ops_imp hx hb)
  have hE := fun (u : World) (hb : Below w.heap.size w u) => eencode_any x ao cap u w.heap.size hb.size (ops_imp hx hb) z0 z1 z2 z3 z5 z7
  have hE2 := fun (u : World) (hb : Below w.heap.size w u) => rencode_any x ao cap u w.heap.size hb.size (ops_imp hx hb) z0 z1 z2 z3 z5 z7
  obtain ⟨g, hg⟩ : ∃ g, g = goodB x := ⟨_, rfl⟩
  obtain ⟨⟨T, E⟩, hT⟩ : ∃ t, t = entV x := ⟨_, rfl⟩
  obtain ⟨n, hn⟩ : ∃ n, n = x.fGraph.fOps.length := ⟨_, rfl⟩
  unfold encE at hG hG2 hE hE2 ⊢
  rw [← hg] at hG hG2
  rw [← hT] at hE hE2
  rw [← hn] at hG hG2 hE hE2 ⊢
  obtain ⟨tb, htb⟩ : ∃ t, t = toB T := ⟨_, rfl⟩
  dsimp only at hE hE2
  rw [← htb] at hE hE2
  clear hg hT hn htb hx
  replace hG := Lib.hid hG
  replace hG2 := Lib.hid hG2
  replace hE := Lib.hid hE
  replace hE2 := Lib.hid hE2
  go_enter Try.func3, Try.ntmps3
  go_upto_region 1 with fail
  refine Code.wp_world ?_
  intro w1 hw1
  have hL : Blk w1 w.heap.size #[.int .i64 x.fKind, .int .i64 x.fRec.fProducer, .int .i64 x.fRec.fSeq, .int .i64 x.fRec.fPart, .string x.fRec.fKey, .int .u32 x.fRec.fVal, .slice ao n cap, .int .i64 x.fN] 29 := by rw [hw1]; exact Blk.new _ _ _
  have hb1 : Below w.heap.size w w1 := by rw [hw1]; exact below_alloc1 w _
  clear hw1
  have hE1 := hE.out w1 hb1
  obtain ⟨c0, c1, c2, c3, c4, c5, c6, c7⟩ := blk8 hL
  go_wp2_with (go_at_call 8; refine Shut.out ?k1)
  unfold Shut
  refine hE1.mono ?_
  rintro e w2 ⟨rfl, hb12⟩
  dsimp only
  have hb2 := hb1.trans (hb12.mono hb1.size)
  replace hL := hL.below hb12 hL.lt
  have hE3 := hE2.out w2 hb2
  clear hE1 hE hE2 c0 c1 c2 c3 c4 c5 c6 c7 hb12
  obtain ⟨c0, c1, c2, c3, c4, c5, c6, c7⟩ := blk8 hL
  go_wp2_with (go_at_call 9; refine Shut.out ?k2)
  unfold Shut
  refine hE3.mono ?_
  rintro e w3 ⟨rfl, hb23⟩
  dsimp only
  have hb3 := hb2.trans (hb23.mono hb2.size)
  replace hL := hL.below hb23 hL.lt
  clear hE3 c0 c1 c2 c3 c4 c5 c6 c7 hb23
  obtain ⟨c0, c1, c2, c3, c4, c5, c6, c7⟩ := blk8 hL
  have hl3 := hL.lt
  have d0 := Wd.cell c0 hl3
  have d1 := Wd.cell c1 hl3
  have d2 := Wd.cell c2 hl3
  have d3 := Wd.cell c3 hl3
  have d4 := Wd.cell c4 hl3
  have d5 := Wd.cell c5 hl3
  have d6 := Wd.cell c6 hl3
  have d7 := Wd.cell c7 hl3
  have hGg := fun (u : Wd w3) => Calls.quiet_below (hG.out u.v (hb3.trans (u.h.mono hb3.size)))
  have hGr := fun (u : Wd w3) => Calls.quiet_below (hG2.out u.v (hb3.trans (u.h.mono hb3.size)))
  have hKn := fun (u : Wd w3) => Calls.quiet_below (eknown_any u.v)
  replace hGg := Lib.hid hGg
  replace hGr := Lib.hid hGr
  replace hKn := Lib.hid hKn
  clear hG hG2 hL c0 c1 c2 c3 c4 c5 c6 c7
  go_upto_region 3 with fail
  refine wp_region_below (by kernel_rfl) (by kernel_rfl) ?_
  repeat (go_big_quiet_step ((first | (go_at_call 10; exact hKn.out _) | (go_at_call 11; exact hGg.out _) | (go_at_call 12; exact hGr.out _))))
  refine wpQuiet_nil ?_
  rintro _ ⟨u, rfl⟩
  go_wp2_with fail
  go_ret
  refine ⟨by simp, hb3.trans (u.h.mono hb3.size)⟩
theorem eencodes_row {w : World} (c0 : Array Value) (x0 : TEntry) (h0 : REntry w.heap.size w (Value.cells (.agg c0)).toList x0) :
    Calls Try.prog 3 #[.agg c0] w fun e w' => e = .returned (.bool true) ∧ Below w.heap.size w w' := by
  obtain ⟨ao, cap, rfl, hs, hw, _⟩ := entry_agg h0
  exact eencodes_walk _ _ _ _ hs hw
end Go.Proofs.Ytcigbobihkkdiaa
