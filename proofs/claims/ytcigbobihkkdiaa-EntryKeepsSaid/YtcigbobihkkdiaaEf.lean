/- Entry: the reference's items of a graph. -/
import Derived.Test.YtcigbobihkkdiaaEe
namespace Go.Proofs.Ytcigbobihkkdiaa
open Go.RowKit
set_option linter.unusedVariables false
set_option linter.unusedSimpArgs false

theorem keep11 {p0 p1 p2 p3 p4 p5 p6 p7 p8 p9 pa : Addr} {v0 v1 v2 v3 v4 v5 v6 v7 v8 v9 va : Value} (w w' : World) (hb : Below w.heap.size w w')
    (h : w.cell? p0 = some v0 ∧ w.cell? p1 = some v1 ∧ w.cell? p2 = some v2 ∧ w.cell? p3 = some v3 ∧ w.cell? p4 = some v4 ∧ w.cell? p5 = some v5 ∧ w.cell? p6 = some v6 ∧ w.cell? p7 = some v7 ∧ w.cell? p8 = some v8 ∧ w.cell? p9 = some v9 ∧ w.cell? pa = some va) :
    w'.cell? p0 = some v0 ∧ w'.cell? p1 = some v1 ∧ w'.cell? p2 = some v2 ∧ w'.cell? p3 = some v3 ∧ w'.cell? p4 = some v4 ∧ w'.cell? p5 = some v5 ∧ w'.cell? p6 = some v6 ∧ w'.cell? p7 = some v7 ∧ w'.cell? p8 = some v8 ∧ w'.cell? p9 = some v9 ∧ w'.cell? pa = some va :=
  And.imp (cellkeep hb) (And.imp (cellkeep hb) (And.imp (cellkeep hb) (And.imp (cellkeep hb) (And.imp (cellkeep hb) (And.imp (cellkeep hb) (And.imp (cellkeep hb) (And.imp (cellkeep hb) (And.imp (cellkeep hb) (And.imp (cellkeep hb) (cellkeep hb)))))))))) h

set_option maxRecDepth 100000 in
set_option maxHeartbeats 4000000 in
theorem ritems_ops (x : TEntry) (ao : Option Addr) (cap : Nat) (w : World) (B : Nat) (hB : B ≤ w.heap.size) (hx : SlA B 7 (ROp B) w ao cap x.fGraph.fOps) (hk3 : x.fKind = 3) (h16 : x.fGraph.fOps.length ≤ 16) (hin2 : insP x) :
    Calls Try.prog 22 #[.agg (encE x ao cap)] w (EItR x B w) := by
  obtain ⟨j0, hi, hz0, hz1, hz2⟩ := info_parts infoI
  unfold encE
  rw [hk3]
  unfold insP at hin2
  have hres : entI x = [intI 3, gI x.fGraph.fOps] := by rw [entI, if_neg (by rw [hk3]; decide), if_pos hk3]
  unfold EItR
  rw [hres]
  obtain ⟨ops, hops⟩ : ∃ o, o = x.fGraph.fOps := ⟨_, rfl⟩
  rw [← hops] at hx h16 hin2 ⊢
  clear hops hres
  obtain ⟨n, hn⟩ : ∃ n, n = ops.length := ⟨_, rfl⟩
  rw [← hn] at h16 ⊢
  replace hn := Lib.hid hn
  go_enter Try.func22, Try.ntmps22
  go_upto_region 1 with fail
  refine Code.wp_world ?_
  intro w1 hw1
  have hL : Blk w1 w.heap.size #[.int .i64 3, .int .i64 x.fRec.fProducer, .int .i64 x.fRec.fSeq, .int .i64 x.fRec.fPart, .string x.fRec.fKey, .int .u32 x.fRec.fVal, .slice ao n cap, .int .i64 x.fN] 29 := by rw [hw1]; exact Blk.new _ _ _
  have hb1 : Below w.heap.size w w1 := by rw [hw1]; exact below_alloc1 w _
  clear hw1
  obtain ⟨c0, c1, c2, c3, c4, c5, c6, c7⟩ := blk8 hL
  go_wp2_with (go_at_call 36; refine Shut.out ?ki)
  unfold Shut
  refine (num_any _ _).mono ?_
  rintro e w3 ⟨rfl, hb23⟩
  dsimp only
  have hb3 := hb1.trans (hb23.mono hb1.size)
  have hL3 := hL.below hb23 hL.lt
  clear c0 c1 c2 c3 c4 c5 c6 c7 hL
  obtain ⟨c0, c1, c2, c3, c4, c5, c6, c7⟩ := blk8 hL3
  go_upto_region 2 with fail
  refine Code.wp_world ?_
  intro w4 hw4
  obtain ⟨lb, hlb⟩ : ∃ b, b = w3.heap.size := ⟨_, rfl⟩
  have hs3 := hb3.size
  have hK4 : Blk w4 lb #[.int .i64 0, .int .i64 3, .string ⟨#[]⟩, .slice none 0 0] 50 := by rw [hw4, hlb]; exact Blk.new _ _ _
  have hb34 : Below w3.heap.size w3 w4 := by rw [hw4]; exact below_alloc1 _ _
  have hb4 := hb3.trans (hb34.mono hs3)
  have hL4 := hL3.below hb34 hL3.lt
  have hown4 : OwnL encP w4 w.heap.size 50 4 (.slice (some ⟨lb, 0, none⟩) 1 1) [(⟨intI 3, none, 0⟩ : PIt)] := OwnL.of_blk (cap := 1) (xs := [(⟨intI 3, none, 0⟩ : PIt)]) hK4 (by omega) (by simp) (by decide) rfl rfl rfl
  rw [← hlb]
  have hlb4 := hK4.lt
  clear hw4 hK4 hL3 c0 c1 c2 c3 c4 c5 c6 c7
  replace hlb := Lib.hid hlb
  obtain ⟨c0, c1, c2, c3, c4, c5, c6, c7⟩ := blk8 hL4
  go_upto_region 8 with fail
  refine Code.wp_world ?_
  intro w5 hw5
  obtain ⟨gb, hgb⟩ : ∃ b, b = w4.heap.size := ⟨_, rfl⟩
  have hG5 : Blk w5 gb #[.int .i64 2, .int .i64 0, .string ⟨#[]⟩, .slice none 0 0] 50 := by rw [hw5, hgb]; exact Blk.new _ _ _
  have hb45 : Below w4.heap.size w4 w5 := by rw [hw5]; exact below_alloc1 _ _
  have hs5 : w5.heap.size = gb + 1 := by rw [hw5, hgb]; simp
  rw [← hgb]
  clear hw5 c0 c1 c2 c3 c4 c5 c6 c7
  have hL5 := hL4.below hb45 hL4.lt
  have hown5 := hown4.below hb45 (Nat.le_refl _)
  have hb5 := hb4.trans (hb45.mono hb4.size)
  have hebg : w.heap.size < gb := by rw [hgb]; exact hL4.lt
  have hlbg : lb < gb := by rw [hgb]; exact hlb4
  replace hgb := Lib.hid hgb
  replace hs5 := Lib.hid hs5
  clear hL4 hown4
  have hx5 := ops_imp hx (hb5.mono hB)
  clear hx
  go_wp2_with fail
  go_loopw [6] (fun x6 wr => ∃ (k : Nat) (ps : List PIt) (aov : Option Addr) (capv : Nat), k ≤ n ∧ x6 = .int .i64 k ∧ ps.map (·.x) = (ops.take k).map opI ∧ Blk wr gb #[.int .i64 2, .int .i64 0, .string ⟨#[]⟩, .slice aov ps.length capv] 50 ∧
    OwnL encP wr w5.heap.size 50 4 (.slice aov ps.length capv) ps ∧ Chg (fun b => b = gb) w5 wr ∧
    (∀ p ∈ ps, RItP 3 (fun b => w5.heap.size ≤ b ∧ b < wr.heap.size ∧ (Value.slice aov ps.length capv).ownBlock ≠ some b) wr (encP p) p.x)) (fun x6 _ => n - (intOf x6).toNat)
  case atStart => exact ⟨0, [], none, 0, Nat.zero_le _, rfl, rfl, hG5, OwnL.nil _ _ _ _ _, Chg.refl _ _, by simp⟩
  case round =>
    obtain ⟨k, ps, aov, capv, hk, rfl, hpm, hG, hown, hch, hels⟩ := hrel
    have hsz := hch.size
    have hpk : ps.length = k := by have := congrArg List.length hpm; rw [List.length_map, List.length_map, List.length_take, ← hn.out] at this; omega
    replace hpk := Lib.hid hpk
    have hs5' := hs5.out
    have hLr := hL5.chg hch (by omega)
    have hbg : Below gb w5 wr := hch.below (by omega) (fun b hb h => by omega)
    have hBg : B ≤ gb := by omega
    obtain ⟨c0, c1, c2, c3, c4, c5, c6, c7⟩ := blk8 hLr
    by_cases hkn : k < n
    · have hkx : k < ops.length := by rw [← hn.out]; exact hkn
      obtain ⟨b, off, rfl, hb, _⟩ := hx5.addr (by omega)
      obtain ⟨o, hxo⟩ : ∃ o, ops[k] = o := ⟨_, rfl⟩
      obtain ⟨ao1, cap1, e0, e1, e2, e3, e4, e5, e6, z0, hin, z2, z3, z4, z5, z6⟩ := ROp.at (ops_imp hx5 (hbg.mono hBg)) hkx hxo
      have htake : (ops.take (k + 1)).map opI = (ops.take k).map opI ++ [opI o] := by rw [List.take_add_one, List.getElem?_eq_getElem hkx, hxo, List.map_append]; rfl
      have hm2 : o.fIn.length ≤ 2 := by rw [← hxo]; exact hin2 _ (List.getElem_mem hkx)
      obtain ⟨m, hm⟩ : ∃ m, m = o.fIn.length := ⟨_, rfl⟩
      rw [← hm] at e1 hm2
      replace hxo := Lib.hid hxo
      replace hm := Lib.hid hm
      have hb3' : b < wr.heap.size := by omega
      go_upto_region 13 with fail
      refine Code.wp_world ?_
      intro w6 hw6
      obtain ⟨kb, hkb⟩ : ∃ c, c = wr.heap.size := ⟨_, rfl⟩
      have hK6 : Blk w6 kb #[.int .i64 o.fKind, .slice ao1 m cap1, .int .i64 o.fArg, .int .u32 o.fNum, .int .i64 o.fRounds, .int .i64 o.fTest, .int .u32 o.fLim] 47 := by rw [hw6, hkb]; exact (Blk.new _ _ _).alloc _
      have hI6 : Blk w6 (kb + 1) #[.int .i64 2, .int .i64 0, .string ⟨#[]⟩, .slice none 0 0] 50 := by rw [hw6, hkb]; exact blk_new1 _ _ _ _
      have hb6 : Below wr.heap.size wr w6 := by rw [hw6]; exact below_alloc2 _ _ _
      have hs6 : w6.heap.size = kb + 2 := by rw [hw6, hkb]; simp
      rw [← hkb]
      clear hw6 e0 e2 e3 e4 e5 e6 e1 c0 c1 c2 c3 c4 c5 c6 c7
      obtain ⟨ib, hib⟩ : ∃ c, c = kb + 1 := ⟨_, rfl⟩
      rw [← hib] at hI6 ⊢
      replace hkb := Lib.hid hkb
      replace hs6 := Lib.hid hs6
      replace hib := Lib.hid hib
      have hin' := in_imp hin (hb6.mono (by omega))
      clear hin
      have hBk : B ≤ kb := by have := hkb.out; omega
      go_wp2_with fail
      go_loopw [9] (fun x9 wr => ∃ (j : Nat) (ao6 : Option Addr) (cap6 : Nat), j ≤ m ∧ x9 = .int .i64 j ∧ Blk wr ib #[.int .i64 2, .int .i64 0, .string ⟨#[]⟩, .slice ao6 j cap6] 50 ∧ OwnL encP wr w6.heap.size 50 4 (.slice ao6 j cap6) ((o.fIn.take j).map (fun n => ⟨intI n, none, 0⟩)) ∧ Chg (fun b => b = ib) w6 wr) (fun x9 _ => m - (intOf x9).toNat)
      case atStart => exact ⟨0, none, 0, Nat.zero_le _, rfl, hI6, OwnL.nil _ _ _ _ _, Chg.refl _ _⟩
      case round =>
        obtain ⟨j, ao6, cap6, hj, rfl, hI, hown6, hch6⟩ := hrel
        have hlj : ((o.fIn.take j).map (fun n => (⟨intI n, none, 0⟩ : PIt))).length = j := by rw [List.length_map, List.length_take, ← hm.out]; omega
        have hs7 := hch6.size
        have hs6' := hs6.out
        have hib' := hib.out
        have hKr := hK6.chg hch6 (by omega)
        have i3 : wr.cell? ⟨ib, 3, none⟩ = some (.slice ao6 j cap6) := hI.cellAt rfl
        have k1 : wr.cell? ⟨kb, 1, none⟩ = some (.slice ao1 m cap1) := hKr.cellAt rfl
        have hbk : Below kb w6 wr := hch6.below (by omega) (fun b hb h => by omega)
        replace hlj := Lib.hid hlj
        replace hs6' := Lib.hid hs6'
        replace hib' := Lib.hid hib'
        by_cases hjm : j < m
        · have hjx : j < o.fIn.length := by rw [← hm.out]; exact hjm
          obtain ⟨b1, o1, rfl, hbb1, _⟩ := hin'.addr (by omega)
          obtain ⟨iv, hiv⟩ : ∃ iv, o.fIn[j] = iv := ⟨_, rfl⟩
          obtain ⟨g0, g1⟩ := in_at (in_imp hin' (hbk.mono hBk)) hjx hiv
          have htk : (o.fIn.take (j + 1)).map (fun n => (⟨intI n, none, 0⟩ : PIt)) = (o.fIn.take j).map (fun n => (⟨intI n, none, 0⟩ : PIt)) ++ [⟨intI iv, none, 0⟩] := by rw [List.take_add_one, List.getElem?_eq_getElem hjx, hiv, List.map_append]; rfl
          have hb1w : b1 < wr.heap.size := by have := hs6'.out; omega
          replace hiv := Lib.hid hiv
          go_wp2_with fail
          refine wp_region_calm (fun wx => wx.cell? ⟨ib, 3, none⟩ = some (.slice ao6 j cap6) ∧ wx.cell? ⟨kb, 1, none⟩ = some (.slice (some ⟨b1, o1, none⟩) m cap1) ∧ wx.cell? ⟨b1, o1 + j, none⟩ = some (.int .i64 iv)) 10 [7, 8, 9] (by kernel_rfl) (by kernel_rfl) (fun d _ _ _ _ h => by cases d <;> exact h) ⟨i3, k1, g0⟩ (fun hHeld => ?_)
          simp only [List.take_succ_cons, List.take_zero, List.drop_succ_cons, List.drop_zero]
          have hbc : Below wr.heap.size wr wr.drew := (Below.refl _ _).drew
          clear i3 k1 g0
          iterate 7 (refine wpCalm_q0 rfl rfl ⟨?_, ?_, ?_⟩; rotate_left; (focus (intro wx hSx; (try dsimp only at hSx); go_simp; (try with_reducible rfl))); (simp only [Act.put, List.setIfInBounds_toArray, List.set_cons_zero, List.set_cons_succ]))
          refine wpCalm_s rfl rfl (fun K' hK => ?_)
          go_simp
          refine (num_any _ _).mono ?_
          rintro e w7 ⟨rfl, hbn⟩
          dsimp only
          replace hHeld := keep3 _ _ hbn hHeld
          replace hbc := hbc.trans (hbn.mono hbc.size)
          clear hbn
          refine hK.out _ _ hHeld ?_
          clear hK K'
          try simp only [Act.put, List.setIfInBounds_toArray, List.set_cons_zero, List.set_cons_succ]
          refine wpCalm_s rfl rfl (fun K' hK => ?_)
          go_simp
          refine hK.out _ _ (keep3 _ _ (below_alloc1 _ _) hHeld) ?_
          clear hK K'
          try simp only [Act.put, List.setIfInBounds_toArray, List.set_cons_zero, List.set_cons_succ]
          have hown7 := hown6.below hbc (Nat.le_refl _)
          have hI7 := hI.below hbc hI.lt
          have hK7 := hKr.below hbc hKr.lt
          have hbk7 := hbk.trans (hbc.mono (by have := hs6'.out; omega))
          refine wpCalm_s rfl rfl (fun K' hK => ?_)
          refine step_app1g rfl _ _ 48 rfl Try.underlying48 hi hz0 hz1 hz2 rfl (by decide) (enc := encP) ⟨intI iv, none, 0⟩ rfl (xs := (o.fIn.take j).map (fun n => (⟨intI n, none, 0⟩ : PIt))) hown7 rfl (encP_len _) (encP_one _) (by rw [hlj.out]; omega) (by rw [hlj.out]; unfold maxLen; omega) (Nat.le_trans hs7 hbc.size) (fun g cap8 w8 hown8 hgr8 => ?_)
          rw [hlj.out] at hown8 hgr8 ⊢
          rw [← htk] at hown8
          have hne8 : ∀ b, b < w6.heap.size → (Value.slice ao6 j cap6).ownBlock ≠ some b := fun b hb h => by have := (hown7.lt b h).1; omega
          have hI8 := blk_grown hgr8.grown hI7 (fun h => hne8 ib (by have := hs6'.out; have := hib'.out; omega) h)
          have hK8 := blk_grown hgr8.grown hK7 (fun h => hne8 kb (by have := hs6'.out; omega) h)
          have hbk8 := hbk7.grown hgr8.grown (Nat.le_trans (by have := hs6'.out; omega) hbk7.size) (fun b hb => by have := (hown7.lt b hb).1; have := hs6'.out; omega)
          have hch8 : Chg (fun b => b = ib) w6 w8 := (hch6.then_new (Chg.of_below hbc) (fun i hi h => by omega)).then_new (Chg.of_grown hgr8.grown) (fun i hi h => absurd h (hne8 i hi))
          refine hK.out _ _ ⟨hI8.cellAt rfl, hK8.cellAt rfl, (in_at (in_imp hin' (hbk8.mono hBk)) hjx hiv.out).1⟩ ?_
          clear hK K' hgr8 hown7 hI7 hK7 hne8 hbc hHeld hown6 hI
          try simp only [Act.put, List.setIfInBounds_toArray, List.set_cons_zero, List.set_cons_succ]
          refine wpCalm_nil ?_
          have f3 := hI8.frozen 3
          have i8 : w8.cell? ⟨ib, 3, none⟩ = some (.slice ao6 j cap6) := hI8.cellAt rfl
          go_wp2_with fail
          go_roundw
          case rel => exact ⟨j + 1, _, cap8, by omega, rfl, hI8.set 3 _, hown8.chg ((Chg.refl (fun b => b = ib) w8).setCell ⟨ib, 3, none⟩ _ (fun _ => rfl)) (fun g hg h => by have := (hown8.lt g hg).1; have := hs6'.out; have := hib'.out; omega), hch8.setCell ⟨ib, 3, none⟩ _ (fun _ => rfl)⟩
          case measure => simp [intOf]; omega
        · obtain rfl : j = m := by omega
          have hfull : o.fIn.take j = o.fIn := List.take_of_length_le (by rw [← hm.out]; exact Nat.le_refl _)
          rw [hfull] at hown6 hlj
          have hinR : RItsP 1 (fun b => w6.heap.size ≤ b ∧ b < wr.heap.size) wr ao6 cap6 (o.fIn.map intI) := by
            obtain ⟨aoz, capz, hez, hlz⟩ := RItsP.of_own (d := 1) (D := fun b => w6.heap.size ≤ b ∧ b < wr.heap.size) hown6 (fun p hp => by
              obtain ⟨nn, hnn, rfl⟩ := List.mem_map.1 hp
              refine RItP.one0 ?_
              obtain ⟨i, hi2, rfl⟩ := List.mem_iff_getElem.1 hnn
              obtain ⟨b1, o1, rfl, _, _⟩ := hin'.addr (by omega)
              exact (in_at hin' hi2 rfl).2) (fun g hg => hown6.lt g hg) (by rw [hlj.out]; omega)
            rw [hlj.out] at hez
            simp only [Value.slice.injEq] at hez
            obtain ⟨rfl, _, rfl⟩ := hez
            rwa [List.map_map] at hlz
          have hGr := (hG.below hb6 hG.lt).below hbk (by have := hG.lt; have := hkb.out; omega)
          have g3 : wr.cell? ⟨gb, 3, none⟩ = some (.slice aov ps.length capv) := hGr.cellAt rfl
          have wN : IntKind.i64.wrap o.fNum = o.fNum := wrap_u32 z3
          have wL : IntKind.i64.wrap o.fLim = o.fLim := wrap_u32 z6
          clear hown6 i3
          go_wp2_with fail
          clear k1
          refine wp_region_mix (fun w w' => Below w.heap.size w w') (fun wx => wx.cell? ⟨gb, 3, none⟩ = some (.slice aov ps.length capv) ∧ wx.cell? ⟨kb, 0, none⟩ = some (.int .i64 o.fKind) ∧ wx.cell? ⟨kb, 2, none⟩ = some (.int .i64 o.fArg) ∧ wx.cell? ⟨kb, 3, none⟩ = some (.int .u32 o.fNum) ∧ wx.cell? ⟨kb, 4, none⟩ = some (.int .i64 o.fRounds) ∧ wx.cell? ⟨kb, 5, none⟩ = some (.int .i64 o.fTest) ∧ wx.cell? ⟨kb, 6, none⟩ = some (.int .u32 o.fLim) ∧ wx.cell? ⟨ib, 0, none⟩ = some (.int .i64 2) ∧ wx.cell? ⟨ib, 1, none⟩ = some (.int .i64 0) ∧ wx.cell? ⟨ib, 2, none⟩ = some (.string ⟨#[]⟩) ∧ wx.cell? ⟨ib, 3, none⟩ = some (.slice ao6 j cap6)) 2 23 27 [2, 3, 5, 6, 7, 9, 10, 11, 13, 14, 16, 17, 19, 20, 21, 4, 8, 12, 15, 18, 22] [4, 8, 12, 15, 18, 22] [23, 25, 26] (by kernel_rfl) (by kernel_rfl) (fun w => Below.refl _ _) (fun a b c h k => Below.trans h (Below.mono k h.size)) keep11 (fun d _ _ _ _ h => by cases d <;> exact h) ⟨g3, hKr.cellAt rfl, hKr.cellAt rfl, hKr.cellAt rfl, hKr.cellAt rfl, hKr.cellAt rfl, hKr.cellAt rfl, hI.cellAt rfl, hI.cellAt rfl, hI.cellAt rfl, hI.cellAt rfl⟩ (fun hHeld => ?_)
          simp only [List.take_succ_cons, List.take_zero, List.drop_succ_cons, List.drop_zero, pickN, Nat.reduceSub]
          have hbc : Below wr.heap.size wr wr.drew := (Below.refl _ _).drew
          clear g3
          iterate 2 (refine wpCalm_q0 rfl rfl ⟨?_, ?_, ?_⟩; rotate_left; (focus (intro wx hSx; (try dsimp only at hSx); go_simp; (try with_reducible rfl))); (simp only [Act.put, List.setIfInBounds_toArray, List.set_cons_zero, List.set_cons_succ]))
          refine wpCalm_nil ?_
          iterate 15 (refine wpMid_q rfl rfl ⟨?_, ?_, ?_⟩; rotate_left; (focus (intro wx hSx; (try dsimp only at hSx); go_simp; (try with_reducible rfl))); (simp only [Act.put, List.setIfInBounds_toArray, List.set_cons_zero, List.set_cons_succ]))
          refine wpMid_s rfl rfl keep11 (fun w7 hbn hSn K' hK => ?_)
          go_simp
          replace hbc := Below.trans hbc (Below.mono hbn hbc.size)
          clear hbn
          refine (num_any _ _).mono ?_
          rintro e w' ⟨rfl, hbn⟩
          dsimp only
          refine hK.out _ _ hbn (fun hHeld => ?_)
          replace hbc := Below.trans hbc (Below.mono hbn hbc.size)
          clear hbn hSn hK K'
          try simp only [Act.put, List.setIfInBounds_toArray, List.set_cons_zero, List.set_cons_succ]
          refine wpMid_s rfl rfl keep11 (fun w7 hbn hSn K' hK => ?_)
          go_simp
          replace hbc := Below.trans hbc (Below.mono hbn hbc.size)
          clear hbn
          refine (num_any _ _).mono ?_
          rintro e w' ⟨rfl, hbn⟩
          dsimp only
          refine hK.out _ _ hbn (fun hHeld => ?_)
          replace hbc := Below.trans hbc (Below.mono hbn hbc.size)
          clear hbn hSn hK K'
          try simp only [Act.put, List.setIfInBounds_toArray, List.set_cons_zero, List.set_cons_succ]
          refine wpMid_s rfl rfl keep11 (fun w7 hbn hSn K' hK => ?_)
          go_simp
          replace hbc := Below.trans hbc (Below.mono hbn hbc.size)
          clear hbn
          refine (num_any _ _).mono ?_
          rintro e w' ⟨rfl, hbn⟩
          dsimp only
          refine hK.out _ _ hbn (fun hHeld => ?_)
          replace hbc := Below.trans hbc (Below.mono hbn hbc.size)
          clear hbn hSn hK K'
          try simp only [Act.put, List.setIfInBounds_toArray, List.set_cons_zero, List.set_cons_succ]
          refine wpMid_s rfl rfl keep11 (fun w7 hbn hSn K' hK => ?_)
          go_simp
          replace hbc := Below.trans hbc (Below.mono hbn hbc.size)
          clear hbn
          refine (num_any _ _).mono ?_
          rintro e w' ⟨rfl, hbn⟩
          dsimp only
          refine hK.out _ _ hbn (fun hHeld => ?_)
          replace hbc := Below.trans hbc (Below.mono hbn hbc.size)
          clear hbn hSn hK K'
          try simp only [Act.put, List.setIfInBounds_toArray, List.set_cons_zero, List.set_cons_succ]
          refine wpMid_s rfl rfl keep11 (fun w7 hbn hSn K' hK => ?_)
          go_simp
          replace hbc := Below.trans hbc (Below.mono hbn hbc.size)
          clear hbn
          refine (num_any _ _).mono ?_
          rintro e w' ⟨rfl, hbn⟩
          dsimp only
          refine hK.out _ _ hbn (fun hHeld => ?_)
          replace hbc := Below.trans hbc (Below.mono hbn hbc.size)
          clear hbn hSn hK K'
          try simp only [Act.put, List.setIfInBounds_toArray, List.set_cons_zero, List.set_cons_succ]
          refine wpMid_s rfl rfl keep11 (fun w7 hbn hSn K' hK => ?_)
          go_simp
          replace hbc := Below.trans hbc (Below.mono hbn hbc.size)
          clear hbn
          refine (num_any _ _).mono ?_
          rintro e w' ⟨rfl, hbn⟩
          dsimp only
          refine hK.out _ _ hbn (fun hHeld => ?_)
          replace hbc := Below.trans hbc (Below.mono hbn hbc.size)
          clear hbn hSn hK K'
          try simp only [Act.put, List.setIfInBounds_toArray, List.set_cons_zero, List.set_cons_succ]
          refine wpMid_nil (fun w7 hbn hHeld => ?_)
          replace hbc := Below.trans hbc (Below.mono hbn hbc.size)
          clear hbn
          refine wpCalm_s rfl rfl (fun K' hK => ?_)
          go_simp
          refine hK.out _ _ (keep11 _ _ (below_alloc1 _ _) hHeld) ?_
          clear hK K'
          try simp only [Act.put, List.setIfInBounds_toArray, List.set_cons_zero, List.set_cons_succ]
          refine wpCalm_world ?_
          intro w8 hw8
          have hB8 : Blk w8 w7.heap.size #[.int .i64 0, .int .i64 o.fKind, .string ⟨#[]⟩, .slice none 0 0, .int .i64 2, .int .i64 0, .string ⟨#[]⟩, .slice ao6 j cap6, .int .i64 0, .int .i64 o.fArg, .string ⟨#[]⟩, .slice none 0 0, .int .i64 0, .int .i64 o.fNum, .string ⟨#[]⟩, .slice none 0 0,
            .int .i64 0, .int .i64 o.fRounds, .string ⟨#[]⟩, .slice none 0 0, .int .i64 0, .int .i64 o.fTest, .string ⟨#[]⟩, .slice none 0 0, .int .i64 0, .int .i64 o.fLim, .string ⟨#[]⟩, .slice none 0 0] 50 := by rw [hw8]; exact Blk.new _ _ _
          have hb78 : Below w7.heap.size w7 w8 := by rw [hw8]; exact below_alloc1 _ _
          have hs8 : w8.heap.size = w7.heap.size + 1 := by rw [hw8]; simp
          clear hw8
          replace hHeld := keep11 _ _ hb78 hHeld
          have hbc8 := Below.trans hbc (Below.mono hb78 hbc.size)
          have hR8 : RItsP 2 (fun b => w6.heap.size ≤ b ∧ b < w8.heap.size) w8 (some ⟨w7.heap.size, 0, none⟩) 7 (opL o) := by
            rw [show j = (o.fIn.map intI).length by rw [List.length_map]; exact hm.out] at hB8
            refine RItsP.of_cells (ps := [⟨intI o.fKind, none, 0⟩, ⟨lstI (o.fIn.map intI), ao6, cap6⟩, ⟨intI o.fArg, none, 0⟩, ⟨intI o.fNum, none, 0⟩, ⟨intI o.fRounds, none, 0⟩, ⟨intI o.fTest, none, 0⟩, ⟨intI o.fLim, none, 0⟩]) hB8 ⟨Nat.le_trans hs7 hbc.size, by omega⟩ rfl ?_ (by simp)
            intro p hp
            simp only [List.mem_cons, List.not_mem_nil, or_false] at hp
            rcases hp with rfl | rfl | rfl | rfl | rfl | rfl | rfl
            · exact RItP.one0 z0
            · exact RItP.one2 (hinR.up hbc8)
            · exact RItP.one0 z2
            · exact RItP.one0 (wf_u32_i64 z3)
            · exact RItP.one0 z4
            · exact RItP.one0 z5
            · exact RItP.one0 (wf_u32_i64 z6)
          obtain ⟨sb, hsb⟩ : ∃ b, b = w7.heap.size := ⟨_, rfl⟩
          rw [← hsb] at hR8 hs8 ⊢
          clear hB8 hsb
          replace hs8 := Lib.hid hs8
          (refine wpCalm_q0 rfl rfl ⟨?_, ?_, ?_⟩; rotate_left; (focus (intro wx hSx; (try dsimp only at hSx); go_simp; (try with_reducible rfl))); (simp only [Act.put, List.setIfInBounds_toArray, List.set_cons_zero, List.set_cons_succ]))
          refine wpCalm_s rfl rfl (fun K' hK => ?_)
          go_simp
          refine hK.out _ _ (keep11 _ _ (below_alloc1 _ _) hHeld) ?_
          clear hK K'
          try simp only [Act.put, List.setIfInBounds_toArray, List.set_cons_zero, List.set_cons_succ]
          have hb18 := hb6.trans ((hbk.trans (hbc8.mono (by have := hs6'.out; omega))).mono (by have := hkb.out; omega))
          have hown8 := hown.below hb18 (Nat.le_refl _)
          have hG8 := hGr.below hbc8 hGr.lt
          have hK8 := hKr.below hbc8 hKr.lt
          have hI8 := hI.below hbc8 hI.lt
          refine wpCalm_s rfl rfl (fun K' hK => ?_)
          refine step_app1g rfl _ _ 48 rfl Try.underlying48 hi hz0 hz1 hz2 rfl (by decide) (enc := encP) ⟨opI o, some ⟨sb, 0, none⟩, 7⟩ rfl hown8 rfl (encP_len _) (encP_one _) (by have := hpk.out; omega) (by have := hpk.out; unfold maxLen; omega) (Nat.le_trans hsz hb18.size) (fun g cap9 w9 hown9 hgr9 => ?_)
          have hownlt := fun b (hb : (Value.slice aov ps.length capv).ownBlock = some b) => hown.lt b hb
          have hG9 := blk_grown hgr9.grown hG8 (fun h => by have := (hownlt gb h).1; omega)
          have hK9 := blk_grown hgr9.grown hK8 (fun h => by have := (hownlt kb h).2; have := hkb.out; omega)
          have hI9 := blk_grown hgr9.grown hI8 (fun h => by have := (hownlt ib h).2; have := hkb.out; have := hib'.out; omega)
          have hels9 := elems_grow3 (p := ⟨opI o, some ⟨sb, 0, none⟩, 7⟩) hgr9 (fun b hb => (hown.lt b hb).2) hsz hb18 hels (RItP.one2 (hR8.imp fun b hb => ⟨⟨by have := hs6'.out; have := hkb.out; omega, hb.2⟩, rfl⟩))
          have hch9 : Chg (fun b => b = gb) w5 w9 := (hch.then_new (Chg.of_below hb18) (fun i hi h => by omega)).then_new (Chg.of_grown hgr9.grown) (fun i hi h => by have := (hownlt i h).1; omega)
          refine hK.out _ _ ⟨hG9.cellAt rfl, hK9.cellAt rfl, hK9.cellAt rfl, hK9.cellAt rfl, hK9.cellAt rfl, hK9.cellAt rfl, hK9.cellAt rfl, hI9.cellAt rfl, hI9.cellAt rfl, hI9.cellAt rfl, hI9.cellAt rfl⟩ ?_
          clear hK K' hgr9 hown8 hG8 hK8 hI8 hK9 hI9 hels hown hR8
          try simp only [Act.put, List.setIfInBounds_toArray, List.set_cons_zero, List.set_cons_succ]
          refine wpCalm_nil ?_
          have f3 := hG9.frozen 3
          have g9 : w9.cell? ⟨gb, 3, none⟩ = some (.slice aov ps.length capv) := hG9.cellAt rfl
          go_wp2_with fail
          go_roundw
          case rel =>
            have hset : Chg (fun b => b = gb) w9 (w9.setCell ⟨gb, 3, none⟩ (.slice (some ⟨g, 0, none⟩) (ps.length + 1) cap9)) := (Chg.refl (fun b => b = gb) w9).setCell ⟨gb, 3, none⟩ _ (fun _ => rfl)
            refine ⟨k + 1, ps ++ [⟨opI o, some ⟨sb, 0, none⟩, 7⟩], some ⟨g, 0, none⟩, cap9, by omega, rfl, by rw [List.map_append, hpm, htake]; rfl, ?_, ?_, hch9.setCell ⟨gb, 3, none⟩ _ (fun _ => rfl), ?_⟩
            · rw [List.length_append]; exact hG9.set 3 _
            · rw [List.length_append]; exact hown9.chg hset (fun g hg h => by have := (hown9.lt g hg).1; omega)
            · rw [List.length_append]; exact fun p hp => (hels9 p hp).imp fun b hb => ⟨⟨hb.1, by have := hset.size; omega, hb.2.2⟩, hset.block b hb.2.1 (by omega)⟩
          case measure => simp [intOf]; omega
    · obtain rfl : k = n := by omega
      have hpl : ps.map (·.x) = ops.map opI := by rw [hpm, List.take_of_length_le (by rw [← hn.out]; exact Nat.le_refl _)]
      obtain ⟨aoz, capz, hez, hlz⟩ := RItsP.of_own hown (D := fun b => w5.heap.size ≤ b ∧ b < wr.heap.size) (fun p hp => (hels p hp).imp fun b hb => ⟨⟨hb.1, hb.2.1⟩, rfl⟩) (fun g hg => hown.lt g hg) (by have := hpk.out; omega)
      cases hez
      rw [hpl] at hlz
      have hpn : ps.length = (ops.map opI).length := by rw [List.length_map, ← hn.out]; exact hpk.out
      rw [hpn] at hG
      have hownr := hown5.chg hch (fun g hg h => by simp [Value.ownBlock] at hg; omega)
      have hbr : Below w.heap.size w wr := hb5.trans (hbg.mono (by omega))
      clear hels hown hx5 hpn
      obtain ⟨g0, g1, g2, g3⟩ := blk4 hG
      go_wp2_with (at_builtin; refine Shut.out ?ka)
      unfold Shut
      rw [show ops.length = (ops.map opI).length by rw [List.length_map]]
      refine wpList_app1g rfl _ _ 48 rfl Try.underlying48 hi hz0 hz1 hz2 rfl (by decide) (enc := encP) ⟨gI ops, aov, capv⟩ rfl hownr rfl (encP_len _) (encP_one _) (by simp) (by unfold maxLen; simp) hbr.size (fun g6 cap6 w6 hown6 hgr6 => ?_)
      have e2 : [(⟨intI 3, none, 0⟩ : PIt)].length + 1 = 2 := rfl
      rw [e2] at hown6 hgr6 ⊢
      have hb6 := hbr.grown hgr6.grown hbr.size (fun k hk => (hownr.lt k hk).1)
      have hit6 : RItsP 3 (fun b => w5.heap.size ≤ b ∧ b < wr.heap.size) w6 aov capv (ops.map opI) := hlz.imp fun b hb => ⟨hb, hgr6.grown.block b hb.2 (by simp [Value.ownBlock, Act.eval]; omega)⟩
      have hs56 := hgr6.grown.size
      obtain ⟨aoy, capy, hey, hry⟩ := RIts.of_own (d := 4) hown6 (fun p hp => by
        simp only [List.mem_append, List.mem_singleton] at hp
        rcases hp with rfl | rfl
        · exact RIt.one0 (by decide)
        · exact RIt.one2 (hit6.rits fun b hb => by omega)) (by simp)
      cases hey
      clear hgr6 hownr hown6 hit6
      go_wp2_with fail
      go_ret
      exact ⟨_, _, 2, rfl, rfl, hry, hb6⟩
end Go.Proofs.Ytcigbobihkkdiaa
