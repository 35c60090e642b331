/- Entry: Encode, of the program. -/
import Derived.Test.YtcigbobihkkdiaaEc
import Derived.Test.YtcigbobihkkdiaaWc
import Derived.Test.YtcigbobihkkdiaaBaseO
namespace Go.Proofs.Ytcigbobihkkdiaa
open Go.RowKit
set_option linter.unusedVariables false
set_option linter.unusedSimpArgs false

def gI (ops : List TOp) : Itm := lstI (ops.map opI)
def entI (x : TEntry) : List Itm :=
  if x.fKind = 1 then [intI 1, intI x.fRec.fProducer, intI x.fRec.fSeq, intI x.fRec.fPart, txtI x.fRec.fKey, intI x.fRec.fVal]
  else if x.fKind = 3 then [intI 3, gI x.fGraph.fOps] else [intI x.fKind, intI x.fN]
/-- Encode's answer: the text and the error. -/
def entV (x : TEntry) : List Nat × Nat :=
  if goodB x = false then ([], 3) else if x.fKind = 0 then ([], 0) else ((encV (entI x)).2, (encV (entI x)).1)

theorem keep5 {p0 p1 p2 p3 p4 : Addr} {v0 v1 v2 v3 v4 : Value} (w w' : World) (hb : Below w.heap.size w w')
    (h : w.cell? p0 = some v0 ∧ w.cell? p1 = some v1 ∧ w.cell? p2 = some v2 ∧ w.cell? p3 = some v3 ∧ w.cell? p4 = some v4) :
    w'.cell? p0 = some v0 ∧ w'.cell? p1 = some v1 ∧ w'.cell? p2 = some v2 ∧ w'.cell? p3 = some v3 ∧ w'.cell? p4 = some v4 :=
  ⟨cellkeep hb h.1, cellkeep hb h.2.1, cellkeep hb h.2.2.1, cellkeep hb h.2.2.2.1, cellkeep hb h.2.2.2.2⟩

set_option maxRecDepth 100000 in
set_option maxHeartbeats 4000000 in
theorem eencode_any (x : TEntry) (ao : Option Addr) (cap : Nat) (w : World) (B : Nat) (hB : B ≤ w.heap.size) (hx : SlA B 7 (ROp B) w ao cap x.fGraph.fOps)
    (z0 : (Lit.int IntKind.i64 x.fKind).wf = true) (z1 : (Lit.int IntKind.i64 x.fRec.fProducer).wf = true) (z2 : (Lit.int IntKind.i64 x.fRec.fSeq).wf = true) (z3 : (Lit.int IntKind.i64 x.fRec.fPart).wf = true) (z5 : (Lit.int IntKind.u32 x.fRec.fVal).wf = true) (z7 : (Lit.int IntKind.i64 x.fN).wf = true) :
    Calls Try.prog 8 #[.agg (encE x ao cap)] w fun e w' => e = .returned (.tuple #[.string (toB (entV x).1), .int .i64 (entV x).2]) ∧ Below w.heap.size w w' := by
  obtain ⟨j0, hi, hz0, hz1, hz2⟩ := info_parts infoI
  have hlt := encV_lt (entI x)
  obtain ⟨⟨T, E⟩, hT⟩ : ∃ t, t = entV x := ⟨_, rfl⟩
  rw [← hT]
  have hG := fun (u : World) (hb : Below w.heap.size w u) => good_any x ao cap u B (Nat.le_trans hB hb.size) (ops_imp hx (hb.mono hB))
  have hO := fun (u : World) (hb : Below w.heap.size w u) => ops_any x.fGraph.fOps ao cap u B (Nat.le_trans hB hb.size) (ops_imp hx (hb.mono hB))
  unfold encE at hG ⊢
  have hlen := hx.len
  obtain ⟨n, hn⟩ : ∃ n, n = x.fGraph.fOps.length := ⟨_, rfl⟩
  rw [← hn] at hlen hG hO ⊢
  obtain ⟨g, hg⟩ : ∃ g, g = goodB x := ⟨_, rfl⟩
  rw [← hg] at hG
  replace hn := Lib.hid hn
  replace hg := Lib.hid hg
  replace hT := Lib.hid hT
  replace hlt := Lib.hid hlt
  replace hO := Lib.hid hO
  go_enter Try.func8, Try.ntmps8
  go_upto_region 1 with fail
  refine Code.wp_world ?_
  intro w1 hw1
  have hL : Blk w1 w.heap.size #[.int .i64 x.fKind, .int .i64 x.fRec.fProducer, .int .i64 x.fRec.fSeq, .int .i64 x.fRec.fPart, .string x.fRec.fKey, .int .u32 x.fRec.fVal, .slice ao n cap, .int .i64 x.fN] 29 := by rw [hw1]; exact Blk.new _ _ _
  have hb1 : Below w.heap.size w w1 := by rw [hw1]; exact below_alloc1 w _
  clear hw1
  obtain ⟨c0, c1, c2, c3, c4, c5, c6, c7⟩ := blk8 hL
  go_wp2_with (go_at_call 11; refine Shut.out ?kg)
  unfold Shut
  refine (hG w1 hb1).mono ?_
  rintro e w2 ⟨rfl, hb12⟩
  dsimp only
  have hb2 := hb1.trans (hb12.mono hb1.size)
  have hL2 := hL.below hb12 hL.lt
  clear c0 c1 c2 c3 c4 c5 c6 c7 hL hG
  cases g with
  | false =>
    go_wp2_with fail
    go_ret2
    have : (T, E) = ([], 3) := by rw [hT.out, entV, if_pos hg.out.symm]
    cases this
    exact ⟨rfl, hb2⟩
  | true =>
    have hgood : preP x ∧ insP x ∧ rngP x.fRec := by simpa [goodB] using hg.out.symm
    obtain ⟨hpre, hins, hrng⟩ := hgood
    have h16 : n ≤ 16 := by rw [hn.out]; exact hpre.2.2.2.1
    have hkey : x.fRec.fKey.size ≤ 32 := hrng.2.2.2.2.2
    obtain ⟨c0, c1, c2, c3, c4, c5, c6, c7⟩ := blk8 hL2
    go_wp2_with (go_at_call 17; refine Shut.out ?ki)
    unfold Shut
    refine (int_any _ _).mono ?_
    rintro e w3 ⟨rfl, hb23⟩
    dsimp only
    have hb3 := hb2.trans (hb23.mono hb2.size)
    have hL3 := hL2.below hb23 hL2.lt
    clear c0 c1 c2 c3 c4 c5 c6 c7 hL2
    go_upto_region 4 with fail
    refine Code.wp_world ?_
    intro w4 hw4
    obtain ⟨lb, hlb⟩ : ∃ b, b = w3.heap.size := ⟨_, rfl⟩
    have hs3 := hb3.size
    have hK4 : Blk w4 lb #[.int .i64 0, .int .i64 x.fKind, .string ⟨#[]⟩, .slice none 0 0] 50 := by rw [hw4, hlb]; exact Blk.new _ _ _
    have hb34 : Below w3.heap.size w3 w4 := by rw [hw4]; exact below_alloc1 _ _
    have hb4 := hb3.trans (hb34.mono hs3)
    have hL4 := hL3.below hb34 hL3.lt
    have hown4 : OwnL encP w4 w.heap.size 50 4 (.slice (some ⟨lb, 0, none⟩) 1 1) [(⟨intI x.fKind, none, 0⟩ : PIt)] := OwnL.of_blk (cap := 1) (xs := [(⟨intI x.fKind, none, 0⟩ : PIt)]) hK4 (by omega) (by simp) (by decide) rfl rfl rfl
    rw [← hlb]
    have hlb4 := hK4.lt
    clear hw4 hK4 hL3
    replace hlb := Lib.hid hlb
    obtain ⟨c0, c1, c2, c3, c4, c5, c6, c7⟩ := blk8 hL4
    by_cases h0 : x.fKind = 0
    · rw [h0] at c0
      go_wp2_with fail
      go_ret2
      have : (T, E) = ([], 0) := by rw [hT.out, entV, if_neg (by rw [← hg.out]; simp), if_pos h0]
      cases this
      exact ⟨rfl, hb4⟩
    by_cases h1 : x.fKind = 1
    · rw [h1] at c0
      go_upto_region 10 with fail
      refine Code.wp_world ?_
      intro w5 hw5
      obtain ⟨kb, hkb⟩ : ∃ b, b = w4.heap.size := ⟨_, rfl⟩
      have hR5 : Blk w5 kb #[.int .i64 x.fRec.fProducer, .int .i64 x.fRec.fSeq, .int .i64 x.fRec.fPart, .string x.fRec.fKey, .int .u32 x.fRec.fVal] 24 := by rw [hw5, hkb]; exact Blk.new _ _ _
      have hb45 : Below w4.heap.size w4 w5 := by rw [hw5]; exact below_alloc1 _ _
      rw [← hkb]
      clear hw5 c0 c1 c2 c3 c4 c5 c6 c7 hL4 hO
      replace hkb := Lib.hid hkb
      have hb5 := hb4.trans (hb45.mono hb4.size)
      have hown5 := hown4.below hb45 (Nat.le_refl _)
      have wN : IntKind.i64.wrap x.fRec.fVal = x.fRec.fVal := wrap_u32 z5
      refine wp_region_mix (fun w w' => Below w.heap.size w w') (fun wx => wx.cell? ⟨kb, 0, none⟩ = some (.int .i64 x.fRec.fProducer) ∧ wx.cell? ⟨kb, 1, none⟩ = some (.int .i64 x.fRec.fSeq) ∧ wx.cell? ⟨kb, 2, none⟩ = some (.int .i64 x.fRec.fPart) ∧ wx.cell? ⟨kb, 3, none⟩ = some (.string x.fRec.fKey) ∧ wx.cell? ⟨kb, 4, none⟩ = some (.int .u32 x.fRec.fVal)) 1 17 19 [1, 2, 4, 5, 7, 8, 10, 11, 13, 14, 15, 3, 6, 9, 12, 16] [3, 6, 9, 12, 16] [17, 18] (by kernel_rfl) (by kernel_rfl) (fun w => Below.refl _ _) (fun a b c h k => Below.trans h (Below.mono k h.size)) keep5 (fun d _ _ _ _ h => by cases d <;> exact h) ⟨hR5.cellAt rfl, hR5.cellAt rfl, hR5.cellAt rfl, hR5.cellAt rfl, hR5.cellAt rfl⟩ (fun hHeld => ?_)
      simp only [List.take_succ_cons, List.take_zero, List.drop_succ_cons, List.drop_zero, pickN, Nat.reduceSub]
      have hbc : Below w5.heap.size w5 w5.drew := (Below.refl _ _).drew
      (refine wpCalm_q0 rfl rfl ⟨?_, ?_, ?_⟩; rotate_left; (focus (intro wx hSx; (try dsimp only at hSx); go_simp; (try with_reducible rfl))); (simp only [Act.put, List.setIfInBounds_toArray, List.set_cons_zero, List.set_cons_succ]))
      refine wpCalm_nil ?_
      iterate 11 (refine wpMid_q rfl rfl ⟨?_, ?_, ?_⟩; rotate_left; (focus (intro wx hSx; (try dsimp only at hSx); go_simp; (try with_reducible rfl))); (simp only [Act.put, List.setIfInBounds_toArray, List.set_cons_zero, List.set_cons_succ]))
      refine wpMid_s rfl rfl keep5 (fun w6 hbn hSn K' hK => ?_)
      go_simp
      replace hbc := Below.trans hbc (Below.mono hbn hbc.size)
      clear hbn
      refine (int_any _ _).mono ?_
      rintro e w' ⟨rfl, hbn⟩
      dsimp only
      refine hK.out _ _ hbn (fun hHeld => ?_)
      replace hbc := Below.trans hbc (Below.mono hbn hbc.size)
      clear hbn hSn hK K'
      try simp only [Act.put, List.setIfInBounds_toArray, List.set_cons_zero, List.set_cons_succ]
      refine wpMid_s rfl rfl keep5 (fun w6 hbn hSn K' hK => ?_)
      go_simp
      replace hbc := Below.trans hbc (Below.mono hbn hbc.size)
      clear hbn
      refine (int_any _ _).mono ?_
      rintro e w' ⟨rfl, hbn⟩
      dsimp only
      refine hK.out _ _ hbn (fun hHeld => ?_)
      replace hbc := Below.trans hbc (Below.mono hbn hbc.size)
      clear hbn hSn hK K'
      try simp only [Act.put, List.setIfInBounds_toArray, List.set_cons_zero, List.set_cons_succ]
      refine wpMid_s rfl rfl keep5 (fun w6 hbn hSn K' hK => ?_)
      go_simp
      replace hbc := Below.trans hbc (Below.mono hbn hbc.size)
      clear hbn
      refine (int_any _ _).mono ?_
      rintro e w' ⟨rfl, hbn⟩
      dsimp only
      refine hK.out _ _ hbn (fun hHeld => ?_)
      replace hbc := Below.trans hbc (Below.mono hbn hbc.size)
      clear hbn hSn hK K'
      try simp only [Act.put, List.setIfInBounds_toArray, List.set_cons_zero, List.set_cons_succ]
      refine wpMid_s rfl rfl keep5 (fun w6 hbn hSn K' hK => ?_)
      go_simp
      replace hbc := Below.trans hbc (Below.mono hbn hbc.size)
      clear hbn
      refine (text_any _ _).mono ?_
      rintro e w' ⟨rfl, hbn⟩
      dsimp only
      refine hK.out _ _ hbn (fun hHeld => ?_)
      replace hbc := Below.trans hbc (Below.mono hbn hbc.size)
      clear hbn hSn hK K'
      try simp only [Act.put, List.setIfInBounds_toArray, List.set_cons_zero, List.set_cons_succ]
      refine wpMid_s rfl rfl keep5 (fun w6 hbn hSn K' hK => ?_)
      go_simp
      replace hbc := Below.trans hbc (Below.mono hbn hbc.size)
      clear hbn
      refine (int_any _ _).mono ?_
      rintro e w' ⟨rfl, hbn⟩
      dsimp only
      refine hK.out _ _ hbn (fun hHeld => ?_)
      replace hbc := Below.trans hbc (Below.mono hbn hbc.size)
      clear hbn hSn hK K'
      try simp only [Act.put, List.setIfInBounds_toArray, List.set_cons_zero, List.set_cons_succ]
      refine wpMid_nil (fun w6 hbn hHeld => ?_)
      replace hbc := Below.trans hbc (Below.mono hbn hbc.size)
      clear hbn
      refine wpCalm_s rfl rfl (fun K' hK => ?_)
      go_simp
      refine hK.out _ _ (keep5 _ _ (below_alloc1 _ _) hHeld) ?_
      clear hK K'
      try simp only [Act.put, List.setIfInBounds_toArray, List.set_cons_zero, List.set_cons_succ]
      refine wpCalm_world ?_
      intro w7 hw7
      have hB7 : Blk w7 w6.heap.size #[.int .i64 0, .int .i64 x.fRec.fProducer, .string ⟨#[]⟩, .slice none 0 0, .int .i64 0, .int .i64 x.fRec.fSeq, .string ⟨#[]⟩, .slice none 0 0, .int .i64 0, .int .i64 x.fRec.fPart, .string ⟨#[]⟩, .slice none 0 0, .int .i64 1, .int .i64 0, .string x.fRec.fKey, .slice none 0 0,
        .int .i64 0, .int .i64 x.fRec.fVal, .string ⟨#[]⟩, .slice none 0 0] 50 := by rw [hw7]; exact Blk.new _ _ _
      have hb67 : Below w6.heap.size w6 w7 := by rw [hw7]; exact below_alloc1 _ _
      clear hw7
      have hb57 := Below.trans hbc (Below.mono hb67 hbc.size)
      have hb7 := hb5.trans (hb57.mono hb5.size)
      have hown7 := hown5.below hb57 (Nat.le_refl _)
      have hR7 := hR5.below hb57 hR5.lt
      obtain ⟨ps5, hps5⟩ : ∃ l : List PIt, l = [⟨intI x.fRec.fProducer, none, 0⟩, ⟨intI x.fRec.fSeq, none, 0⟩, ⟨intI x.fRec.fPart, none, 0⟩, ⟨txtI x.fRec.fKey, none, 0⟩, ⟨intI x.fRec.fVal, none, 0⟩] := ⟨_, rfl⟩
      have hnew7 : OwnL encP w7 w6.heap.size 50 4 (.slice (some ⟨w6.heap.size, 0, none⟩) 5 5) ps5 := by
        rw [hps5]
        exact OwnL.of_blk (cap := 5) (xs := ([⟨intI x.fRec.fProducer, none, 0⟩, ⟨intI x.fRec.fSeq, none, 0⟩, ⟨intI x.fRec.fPart, none, 0⟩, ⟨txtI x.fRec.fKey, none, 0⟩, ⟨intI x.fRec.fVal, none, 0⟩] : List PIt)) hB7 (Nat.le_refl _) (by simp) (by decide) rfl rfl rfl
      have hl5 : ps5.length = 5 := by rw [hps5]; rfl
      refine wpCalm_s rfl rfl (fun K' hK => ?_)
      refine step_app_rows w7 rfl _ _ 48 rfl Try.underlying48 hi hz0 hz1 hz2 rfl (by decide) (enc := encP) rfl hown7 rfl hnew7 encP_len encP_one (by rw [hl5]; simp [maxLen]) (by rw [hl5]; simp) hb7.size (fun v8 w8 hown8 hgr8 => ?_)
      have hR8 := blk_grown hgr8 hR7 (fun h => by simp [Value.ownBlock, Act.eval] at h; have := hkb.out; omega)
      have hb8 := hb7.grown hgr8 hb7.size (fun k hk => (hown7.lt k hk).1)
      refine hK.out _ _ ⟨hR8.cellAt rfl, hR8.cellAt rfl, hR8.cellAt rfl, hR8.cellAt rfl, hR8.cellAt rfl⟩ ?_
      clear hK K' hgr8 hR7 hR8 hown7 hnew7 hB7
      try simp only [Act.put, List.setIfInBounds_toArray, List.set_cons_zero, List.set_cons_succ]
      obtain ⟨aoy, capy, hey, hry⟩ := RIts.of_own (d := 4) hown8 (fun p hp => by
        rw [hps5] at hp
        simp only [List.mem_append, List.mem_cons, List.not_mem_nil, or_false] at hp
        rcases hp with rfl | rfl | rfl | rfl | rfl | rfl
        · exact RIt.one0 z0
        · exact RIt.one0 z1
        · exact RIt.one0 z2
        · exact RIt.one0 z3
        · exact RIt.one1 (by omega)
        · exact RIt.one0 (wf_u32_i64 z5)) (by rw [List.length_append, hl5]; simp)
      subst hey
      have hxe : ([(⟨intI x.fKind, none, 0⟩ : PIt)] ++ ps5).map (fun p : PIt => p.x) = entI x := by rw [entI, if_pos h1, h1, hps5]; rfl
      rw [hxe] at hry
      have hl6 : ([(⟨intI x.fKind, none, 0⟩ : PIt)] ++ ps5).length = 6 := by rw [List.length_append, hl5]; rfl
      rw [hl6]
      clear hown8 hps5
      refine wpCalm_nil ?_
      have hE := encode_any 4 (entI x) aoy capy w8 _ hry (Nat.le_refl _)
      have hlx := (show (entI x).length = 6 by rw [entI, if_pos h1]; rfl)
      rw [hlx] at hE
      go_wp2_with (go_at_call 20; refine Shut.out ?ke0)
      unfold Shut
      refine hE.mono ?_
      intro e wt hRt
      obtain ⟨hbt, vt, het, hownt⟩ := hRt
      subst het
      dsimp only at hownt ⊢
      have hTt := own_text hownt hlt.out
      obtain ⟨aot, capt, rfl, _, _, _⟩ := hownt.slice
      clear hE hownt
      go_wp2_with fail
      go_ret2
      have hTE : (T, E) = ((encV (entI x)).2, (encV (entI x)).1) := by rw [hT.out, entV, if_neg (by rw [← hg.out]; simp), if_neg h0]
      cases hTE
      exact ⟨rfl, Below.trans hb8 (Below.mono hbt (Below.size hb8))⟩
    by_cases h3 : x.fKind = 3
    · rw [h3] at c0
      have hO4 := hO.out w4 hb4 h16 hins
      go_wp2_with (go_at_call 19; refine Shut.out ?ko)
      unfold Shut
      refine hO4.mono ?_
      rintro e w5 ⟨ao5, cap5, rfl, hit5, hb45⟩
      dsimp only
      have hb5 := hb4.trans (hb45.mono hb4.size)
      have hown5 := hown4.below hb45 (Nat.le_refl _)
      clear c0 c1 c2 c3 c4 c5 c6 c7 hL4 hO4 hown4
      rw [hn.out]
      go_wp2_with (at_builtin; refine Shut.out ?ka)
      unfold Shut
      rw [show x.fGraph.fOps.length = (x.fGraph.fOps.map opI).length by rw [List.length_map]]
      refine wpList_app1g rfl _ _ 48 rfl Try.underlying48 hi hz0 hz1 hz2 rfl (by decide) (enc := encP) ⟨gI x.fGraph.fOps, ao5, cap5⟩ rfl hown5 rfl (encP_len _) (encP_one _) (by simp) (by unfold maxLen; simp) hb5.size (fun g6 cap6 w6 hown6 hgr6 => ?_)
      have e2 : [(⟨intI x.fKind, none, 0⟩ : PIt)].length + 1 = 2 := rfl
      rw [e2] at hown6 hgr6 ⊢
      have hb6 := hb5.grown hgr6.grown hb5.size (fun k hk => (hown5.lt k hk).1)
      have hit6 : RItsP 3 (fun b => w4.heap.size ≤ b ∧ b < w5.heap.size) w6 ao5 cap5 (x.fGraph.fOps.map opI) := hit5.imp fun b hb => ⟨hb, hgr6.grown.block b hb.2 (by simp [Value.ownBlock, Act.eval]; omega)⟩
      have hs56 := hgr6.grown.size
      obtain ⟨aoy, capy, hey, hry⟩ := RIts.of_own (d := 4) hown6 (fun p hp => by
        simp only [List.mem_append, List.mem_singleton] at hp
        rcases hp with rfl | rfl
        · exact RIt.one0 z0
        · exact RIt.one2 (hit6.rits fun b hb => by omega)) (by simp)
      cases hey
      have hxe : ([(⟨intI x.fKind, none, 0⟩ : PIt)] ++ [(⟨gI x.fGraph.fOps, ao5, cap5⟩ : PIt)]).map (fun p : PIt => p.x) = entI x := by rw [entI, if_neg h1, if_pos h3, h3]; rfl
      rw [hxe] at hry
      clear hgr6 hown5 hit5 hit6 hown6
      have hE := encode_any 4 (entI x) (some ⟨g6, 0, none⟩) cap6 w6 _ hry (Nat.le_refl _)
      have hlx := (show (entI x).length = 2 by rw [entI, if_neg h1, if_pos h3]; rfl)
      rw [hlx] at hE
      go_wp2_with (go_at_call 20; refine Shut.out ?ke1)
      unfold Shut
      refine hE.mono ?_
      intro e wt hRt
      obtain ⟨hbt, vt, het, hownt⟩ := hRt
      subst het
      dsimp only at hownt ⊢
      have hTt := own_text hownt hlt.out
      obtain ⟨aot, capt, rfl, _, _, _⟩ := hownt.slice
      clear hE hownt
      go_wp2_with fail
      go_ret2
      have hTE : (T, E) = ((encV (entI x)).2, (encV (entI x)).1) := by rw [hT.out, entV, if_neg (by rw [← hg.out]; simp), if_neg h0]
      cases hTE
      exact ⟨rfl, Below.trans hb6 (Below.mono hbt (Below.size hb6))⟩
    · have e1 : (x.fKind == 1) = false := by simpa using h1
      have e3 : (x.fKind == 3) = false := by simpa using h3
      have e0 : (x.fKind == 0) = false := by simpa using h0
      go_wp2_with (go_at_call 17; refine Shut.out ?ki2)
      unfold Shut
      refine (int_any _ _).mono ?_
      rintro e w5 ⟨rfl, hb45⟩
      dsimp only
      have hb5 := hb4.trans (hb45.mono hb4.size)
      have hown5 := hown4.below hb45 (Nat.le_refl _)
      clear c0 c1 c2 c3 c4 c5 c6 c7 hL4 hown4
      go_wp2_with (at_builtin; refine Shut.out ?ka2)
      unfold Shut
      refine wpList_app1g rfl _ _ 48 rfl Try.underlying48 hi hz0 hz1 hz2 rfl (by decide) (enc := encP) ⟨intI x.fN, none, 0⟩ rfl hown5 rfl (encP_len _) (encP_one _) (by simp) (by unfold maxLen; simp) hb5.size (fun g6 cap6 w6 hown6 hgr6 => ?_)
      have e2 : [(⟨intI x.fKind, none, 0⟩ : PIt)].length + 1 = 2 := rfl
      rw [e2] at hown6 hgr6 ⊢
      have hb6 := hb5.grown hgr6.grown hb5.size (fun k hk => (hown5.lt k hk).1)
      obtain ⟨aoy, capy, hey, hry⟩ := RIts.of_own (d := 4) hown6 (fun p hp => by
        simp only [List.mem_append, List.mem_singleton] at hp
        rcases hp with rfl | rfl
        · exact RIt.one0 z0
        · exact RIt.one0 z7) (by simp)
      cases hey
      have hxe : ([(⟨intI x.fKind, none, 0⟩ : PIt)] ++ [(⟨intI x.fN, none, 0⟩ : PIt)]).map (fun p : PIt => p.x) = entI x := by rw [entI, if_neg h1, if_neg h3]; rfl
      rw [hxe] at hry
      clear hgr6 hown5 hown6
      have hE := encode_any 4 (entI x) (some ⟨g6, 0, none⟩) cap6 w6 _ hry (Nat.le_refl _)
      have hlx := (show (entI x).length = 2 by rw [entI, if_neg h1, if_neg h3]; rfl)
      rw [hlx] at hE
      go_wp2_with (go_at_call 20; refine Shut.out ?ke2)
      unfold Shut
      refine hE.mono ?_
      intro e wt hRt
      obtain ⟨hbt, vt, het, hownt⟩ := hRt
      subst het
      dsimp only at hownt ⊢
      have hTt := own_text hownt hlt.out
      obtain ⟨aot, capt, rfl, _, _, _⟩ := hownt.slice
      clear hE hownt
      go_wp2_with fail
      go_ret2
      have hTE : (T, E) = ((encV (entI x)).2, (encV (entI x)).1) := by rw [hT.out, entV, if_neg (by rw [← hg.out]; simp), if_neg h0]
      cases hTE
      exact ⟨rfl, Below.trans hb6 (Below.mono hbt (Below.size hb6))⟩
end Go.Proofs.Ytcigbobihkkdiaa
