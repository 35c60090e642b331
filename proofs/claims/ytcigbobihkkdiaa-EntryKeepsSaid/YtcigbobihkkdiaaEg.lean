/- Entry: the reference's Encode. -/
import Derived.Test.YtcigbobihkkdiaaEf
import Derived.Test.YtcigbobihkkdiaaWh
namespace Go.Proofs.Ytcigbobihkkdiaa
open Go.RowKit
set_option linter.unusedVariables false
set_option linter.unusedSimpArgs false

set_option maxRecDepth 100000 in
set_option maxHeartbeats 4000000 in
theorem rencode_any (x : TEntry) (ao : Option Addr) (cap : Nat) (w : World) (B : Nat) (hB : B ≤ w.heap.size) (hx : SlA B 7 (ROp B) w ao cap x.fGraph.fOps)
    (z0 : (Lit.int IntKind.i64 x.fKind).wf = true) (z1 : (Lit.int IntKind.i64 x.fRec.fProducer).wf = true) (z2 : (Lit.int IntKind.i64 x.fRec.fSeq).wf = true) (z3 : (Lit.int IntKind.i64 x.fRec.fPart).wf = true) (z5 : (Lit.int IntKind.u32 x.fRec.fVal).wf = true) (z7 : (Lit.int IntKind.i64 x.fN).wf = true) :
    Calls Try.prog 9 #[.agg (encE x ao cap)] w fun e w' => e = .returned (.tuple #[.string (toB (entV x).1), .int .i64 (entV x).2]) ∧ Below w.heap.size w w' := by
  have hlt := encV_lt (entI x)
  obtain ⟨⟨T, E⟩, hT⟩ : ∃ t, t = entV x := ⟨_, rfl⟩
  rw [← hT]
  have hG := fun (u : World) (hb : Below w.heap.size w u) => rgood_any x ao cap u B (Nat.le_trans hB hb.size) (ops_imp hx (hb.mono hB))
  have hI : ∀ (u : World) (hb : Below w.heap.size w u), preP x → insP x → rngP x.fRec → Calls Try.prog 22 #[.agg (encE x ao cap)] u (EItR x B u) := fun u hb h1 h2 h3 => by
    by_cases hk : x.fKind = 3
    · exact ritems_ops x ao cap u B (Nat.le_trans hB hb.size) (ops_imp hx (hb.mono hB)) hk h1.2.2.2.1 h2
    · exact ritems_any x ao cap u B (Nat.le_trans hB hb.size) (ops_imp hx (hb.mono hB)) z0 z1 z2 z3 z5 z7 h3.2.2.2.2.2 hk
  unfold encE at hG hI ⊢
  have hlen := hx.len
  obtain ⟨n, hn⟩ : ∃ n, n = x.fGraph.fOps.length := ⟨_, rfl⟩
  rw [← hn] at hlen hG hI ⊢
  obtain ⟨g, hg⟩ : ∃ g, g = goodB x := ⟨_, rfl⟩
  rw [← hg] at hG
  replace hn := Lib.hid hn
  replace hg := Lib.hid hg
  replace hT := Lib.hid hT
  replace hlt := Lib.hid hlt
  replace hI := Lib.hid hI
  clear hx
  go_enter Try.func9, Try.ntmps9
  go_upto_region 1 with fail
  refine Code.wp_world ?_
  intro w1 hw1
  have hL : Blk w1 w.heap.size #[.int .i64 x.fKind, .int .i64 x.fRec.fProducer, .int .i64 x.fRec.fSeq, .int .i64 x.fRec.fPart, .string x.fRec.fKey, .int .u32 x.fRec.fVal, .slice ao n cap, .int .i64 x.fN] 29 := by rw [hw1]; exact Blk.new _ _ _
  have hb1 : Below w.heap.size w w1 := by rw [hw1]; exact below_alloc1 w _
  clear hw1
  obtain ⟨c0, c1, c2, c3, c4, c5, c6, c7⟩ := blk8 hL
  go_wp2_with (go_at_call 12; refine Shut.out ?kg)
  unfold Shut
  refine (hG w1 hb1).mono ?_
  rintro e w2 ⟨rfl, hb12⟩
  dsimp only
  have hb2 := hb1.trans (hb12.mono hb1.size)
  have hL2 := hL.below hb12 hL.lt
  clear c0 c1 c2 c3 c4 c5 c6 c7 hL hG
  cases g with
  | false =>
    go_wp2_with fail
    go_ret2
    have : (T, E) = ([], 3) := by rw [hT.out, entV, if_pos hg.out.symm]
    cases this
    exact ⟨rfl, hb2⟩
  | true =>
    have hgood : preP x ∧ insP x ∧ rngP x.fRec := by simpa [goodB] using hg.out.symm
    obtain ⟨hpre, hins, hrng⟩ := hgood
    obtain ⟨c0, c1, c2, c3, c4, c5, c6, c7⟩ := blk8 hL2
    by_cases h0 : x.fKind = 0
    · rw [h0] at c0
      go_wp2_with fail
      go_ret2
      have : (T, E) = ([], 0) := by rw [hT.out, entV, if_neg (by rw [← hg.out]; simp), if_pos h0]
      cases this
      exact ⟨rfl, hb2⟩
    have e0 : (x.fKind == 0) = false := by simpa using h0
    have hI2 := hI.out w2 hb2 hpre hins hrng
    go_wp2_with (go_at_call 22; refine Shut.out ?ki)
    unfold Shut
    refine hI2.mono ?_
    rintro e w3 ⟨ao3, cap3, n3, rfl, hn3, hit3, hb23⟩
    dsimp only
    have hb3 := hb2.trans (hb23.mono hb2.size)
    have hE := refEncode_any 4 (entI x) ao3 cap3 w3 _ hit3 (Nat.le_refl _)
    rw [← hn3] at hE
    replace hn3 := Lib.hid hn3
    clear c0 c1 c2 c3 c4 c5 c6 c7 hL2 hI2 hit3
    go_wp2_with (go_at_call 21; refine Shut.out ?ke)
    unfold Shut
    refine hE.mono ?_
    intro e wt hRt
    obtain ⟨hbt, vt, het, hownt⟩ := hRt
    subst het
    dsimp only at hownt ⊢
    have hTt := own_text hownt hlt.out
    obtain ⟨aot, capt, rfl, _, _, _⟩ := hownt.slice
    clear hE hownt
    go_wp2_with fail
    go_ret2
    have hTE : (T, E) = ((encV (entI x)).2, (encV (entI x)).1) := by rw [hT.out, entV, if_neg (by rw [← hg.out]; simp), if_neg h0]
    cases hTE
    exact ⟨rfl, hb3.trans (hbt.mono hb3.size)⟩
end Go.Proofs.Ytcigbobihkkdiaa
