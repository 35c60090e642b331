/- Model: Run. -/
import Derived.Test.YtbianedgogdeeaaMq
namespace Go.Proofs.Ytbianedgogdeeaa
open Go.RowKit Go.Maps Fold Go.Lib
attribute [local go_sem] Oper.semAt_some
set_option linter.unusedVariables false
set_option linter.unusedSimpArgs false

set_option maxRecDepth 100000 in
set_option maxHeartbeats 4000000 in
theorem run_ok2 (ops : List TOp) (s : ST) (recs : List TRecord) (ga so ra : Option Addr) (gcap scap rcap B : Nat) (w : World) (hB : B ≤ w.heap.size) (hx : SlA B 7 (ROp B) w ga gcap ops) (hs : StA w B so scap s) (hr : SlA B 5 (RRecord B) w ra rcap recs) (hok : (gcheck ops).2 = 0) (hgd : goodS ops s = true) (hshort : recs.length ≤ 512)
    (hsok : okS s) (hsz : ∀ l ∈ s, l.length ≤ 5864062014805) :
    Calls Try.prog 10 #[.agg #[.slice ga ops.length gcap], .agg #[.slice so s.length scap], .slice ra recs.length rcap] w (RunPost2 w (match runF s recs ops [] [] with | none => ([], [], 2) | some (f, n) => (sortP (f.getLast?.getD []), n, 0))) := by
  have hck := fun W (hW : Below w.heap.size w W) => gcheck_all ops gcap ga W B (Nat.le_trans hB hW.size) (imp_ops hx (hW.mono hB))
  have hgo := fun W (hW : Below w.heap.size w W) => good_any ops s ga so gcap scap B W (Nat.le_trans hB hW.size) (imp_ops hx (hW.mono hB)) (hs.imp' (hW.mono hB) (Nat.le_refl _))
  rw [hgd] at hgo
  obtain ⟨⟨hn1, hn16⟩, hokB⟩ := okB_of_check hok
  obtain ⟨hsl0, hsrt⟩ := goodS_facts hgd
  obtain ⟨R, hR⟩ : ∃ R, R = runF s recs ops [] [] := ⟨_, rfl⟩
  rw [← hR]
  obtain ⟨n, hn⟩ : ∃ n, n = ops.length := ⟨_, rfl⟩
  obtain ⟨sl, hsl⟩ : ∃ sl, sl = s.length := ⟨_, rfl⟩
  obtain ⟨m, hm⟩ : ∃ m, m = recs.length := ⟨_, rfl⟩
  obtain ⟨ep, hep⟩ : ∃ ep, ep = (gcheck ops).1 := ⟨_, rfl⟩
  obtain ⟨ec, hec⟩ : ∃ ec, ec = (gcheck ops).2 := ⟨_, rfl⟩
  rw [← hec] at hok
  rw [← hep, ← hec, ← hn] at hck
  rw [← hn, ← hsl, ← hm]
  replace hn := Lib.hid hn
  replace hsl := Lib.hid hsl
  replace hm := Lib.hid hm
  replace hep := Lib.hid hep
  replace hec := Lib.hid hec
  go_enter Try.func10, Try.ntmps10
  go_upto_region 1 with fail
  refine Code.wp_world ?_
  intro w1 hw1
  have hb1 : Below w.heap.size w w1 := by rw [hw1]; exact (by repeat (first | exact Below.refl _ _ | refine below_drewN ?_ _ | refine Below.drew ?_ | (refine Below.alloc ?_ (by simp; try omega) _)))
  have hG1 : Blk w1 w.heap.size #[.slice ga n gcap] 24 := by rw [hw1]; exact (((Blk.new _ _ _).alloc _).alloc _).alloc _
  have hS1 : Blk w1 (w.heap.size + 1) #[.slice so sl scap] 27 := by
    rw [hw1]
    have := (((Blk.new (w.alloc (.cells #[.slice ga n gcap] 24)) #[.slice so sl scap] 27)).alloc (.cells #[.slice ra m rcap] 28)).alloc (.cells #[.slice none 0 0] 27)
    rwa [World.size_alloc] at this
  have hR1 : Blk w1 (w.heap.size + 2) #[.slice ra m rcap] 28 := by
    rw [hw1]
    have := (Blk.new ((w.alloc (.cells #[.slice ga n gcap] 24)).alloc (.cells #[.slice so sl scap] 27)) #[.slice ra m rcap] 28).alloc (.cells #[.slice none 0 0] 27)
    rwa [World.size_alloc, World.size_alloc] at this
  have hC1 : Blk w1 (w.heap.size + 3) #[.slice none 0 0] 27 := by
    rw [hw1]
    have := Blk.new (((w.alloc (.cells #[.slice ga n gcap] 24)).alloc (.cells #[.slice so sl scap] 27)).alloc (.cells #[.slice ra m rcap] 28)) #[.slice none 0 0] 27
    rwa [World.size_alloc, World.size_alloc, World.size_alloc] at this
  obtain ⟨cb, hcb⟩ : ∃ cb, cb = w.heap.size + 3 := ⟨_, rfl⟩
  obtain ⟨rb, hrb⟩ : ∃ rb, rb = w.heap.size + 2 := ⟨_, rfl⟩
  obtain ⟨sb, hsb⟩ : ∃ sb, sb = w.heap.size + 1 := ⟨_, rfl⟩
  obtain ⟨gb, hgb⟩ : ∃ gb, gb = w.heap.size := ⟨_, rfl⟩
  have hcbl : w.heap.size ≤ cb := by omega
  have hgbl : w.heap.size ≤ gb := by omega
  have hsbl : w.heap.size ≤ sb := by omega
  have hrbl : w.heap.size ≤ rb := by omega
  have e3 : w.heap.size + 1 + 1 + 1 = cb := by omega
  have e2 : w.heap.size + 1 + 1 = rb := by omega
  rw [← hcb] at hC1
  rw [← hrb] at hR1
  rw [← hsb] at hS1
  rw [← hgb] at hG1
  try rw [e3]
  try rw [← hcb]
  try rw [e2]
  try rw [← hrb]
  rw [← hsb]
  rw [← hgb]
  have hne : gb ≠ cb ∧ sb ≠ cb ∧ rb ≠ cb ∧ gb ≠ sb := by omega
  replace hcb := Lib.hid hcb
  replace hrb := Lib.hid hrb
  replace hsb := Lib.hid hsb
  replace hgb := Lib.hid hgb
  clear hw1 e2 e3
  have g1 := hG1.cellAt (i := 0) (v := .slice ga n gcap) rfl
  have hck1 := hck w1 hb1
  replace hck1 := Lib.hid hck1
  clear hck
  rw [← hn.out, ← hsl.out] at hgo
  rw [← hn.out] at hn1 hn16 hokB
  rw [← hm.out] at hshort
  go_wp2_with fail
  refine hck1.out.mono ?_
  rintro e w2 ⟨rfl, hb2⟩
  have hC2 := hC1.below hb2 hC1.lt
  have hG2 := hG1.below hb2 hG1.lt
  have hS2 := hS1.below hb2 hS1.lt
  have hR2 := hR1.below hb2 hR1.lt
  have hb12 := hb1.trans (hb2.mono hb1.size)
  clear hck1 hb2 g1 hG1 hS1 hR1 hC1 hb1
  have g2 := hG2.cellAt (i := 0) (v := .slice ga n gcap) rfl
  have s2 := hS2.cellAt (i := 0) (v := .slice so sl scap) rfl
  have hgo2 := hgo w2 hb12
  replace hgo2 := Lib.hid hgo2
  have d0 : ((ec : Int) != 0) = false := by simp [hok]
  have d1 : decide ((512 : Int) < (m : Int)) = false := by simp; omega
  replace hok := Lib.hid hok
  replace hR := Lib.hid hR
  replace hokB := Lib.hid hokB
  replace hsl0 := Lib.hid hsl0
  replace hsrt := Lib.hid hsrt
  clear hgo
  dsimp only
  go_wp2_with fail
  refine hgo2.out.mono ?_
  rintro e w3 ⟨rfl, hb3⟩
  have hG3 := hG2.below hb3 hG2.lt
  have hS3 := hS2.below hb3 hS2.lt
  have hC3 := hC2.below hb3 hC2.lt
  have hR3 := hR2.below hb3 hR2.lt
  have hb13 := hb12.trans (hb3.mono hb12.size)
  clear hgo2 g2 s2 hG2 hS2 hC2 hR2 hb3 hb12
  have g3 := hG3.cellAt (i := 0) (v := .slice ga n gcap) rfl
  have r3 := hR3.cellAt (i := 0) (v := .slice ra m rcap) rfl
  have hem := empty_any n ga gcap w3 (by omega)
  replace hem := Lib.hid hem
  dsimp only
  go_wp2_with fail
  refine hem.out.mono ?_
  rintro e w4 ⟨nr, rfl, hN4, hnr, hb4⟩
  have hG4 := hG3.below hb4 hG3.lt
  have hS4 := hS3.below hb4 hS3.lt
  have hC4 := hC3.below hb4 hC3.lt
  have hR4 := hR3.below hb4 hR3.lt
  have hb14 := hb13.trans (hb4.mono hb13.size)
  have hnrl : w.heap.size ≤ nr := Nat.le_trans hb13.size hnr
  have hnr4 := hN4.lt
  clear hem g3 r3 hG3 hS3 hC3 hR3 hb4 hb13 hnr
  have g4 := hG4.cellAt (i := 0) (v := .slice ga n gcap) rfl
  have hmk := makeRS n (by omega)
  have hrep : Array.replicate n (Value.slice none 0 0) = (List.replicate n (Value.slice none 0 0)).toArray := by simp
  rw [hrep] at hmk hN4
  obtain ⟨ns0, hns0⟩ : ∃ ns0, ns0 = List.replicate n (Value.slice none 0 0) := ⟨_, rfl⟩
  rw [← hns0] at hmk hN4
  replace hns0 := Lib.hid hns0
  clear hrep
  dsimp only
  go_upto_region 9 with fail
  refine Code.wp_world ?_
  intro w5 hw5
  have hb5 : Below w4.heap.size w4 w5 := by rw [hw5]; exact belowAlloc _ _
  have hX5 : Blk w5 w4.heap.size #[.slice (some ⟨nr, 0, none⟩) n n] 27 := by rw [hw5]; exact Blk.new _ _ _
  have hG5 := hG4.below hb5 hG4.lt
  have hS5 := hS4.below hb5 hS4.lt
  have hC5 := hC4.below hb5 hC4.lt
  have hR5 := hR4.below hb5 hR4.lt
  have hN5 := hN4.below hb5 hN4.lt
  have hb15 := hb14.trans (hb5.mono hb14.size)
  have hnbl := hb14.size
  obtain ⟨nb, hnb⟩ : ∃ nb, nb = w4.heap.size := ⟨_, rfl⟩
  rw [← hnb] at hX5 hnbl ⊢
  have hnr5 := hN5.lt
  clear hw5 hb5 hG4 hS4 hC4 hR4 hN4 hb14 g4 hnr4 hnb
  have g5 := hG5.cellAt (i := 0) (v := .slice ga n gcap) rfl
  go_upto_region 10 with fail
  refine Code.wp_world ?_
  intro w6 hw6
  have hb6 : Below w5.heap.size w5 w6 := by rw [hw6]; exact (by repeat (first | exact Below.refl _ _ | refine below_drewN ?_ _ | refine Below.drew ?_ | (refine Below.alloc ?_ (by simp; try omega) _)))
  have hV6 : Blk w6 w5.heap.size ns0.toArray 29 := by rw [hw6]; exact (Blk.new _ _ _).alloc _
  have hF6 : Blk w6 (w5.heap.size + 1) #[.slice (some ⟨w5.heap.size, 0, none⟩) n n] 25 := by
    rw [hw6]
    have := Blk.new (w5.alloc (.cells ns0.toArray 29)) #[.slice (some ⟨w5.heap.size, 0, none⟩) n n] 25
    rwa [World.size_alloc] at this
  have hG6 := hG5.below hb6 hG5.lt
  have hS6 := hS5.below hb6 hS5.lt
  have hC6 := hC5.below hb6 hC5.lt
  have hR6 := hR5.below hb6 hR5.lt
  have hN6 := hN5.below hb6 hN5.lt
  have hX6 := hX5.below hb6 hX5.lt
  have hb16 := hb15.trans (hb6.mono hb15.size)
  have hfrl := hb15.size
  obtain ⟨fb, hfb⟩ : ∃ fb, fb = w5.heap.size + 1 := ⟨_, rfl⟩
  obtain ⟨fr, hfr⟩ : ∃ fr, fr = w5.heap.size := ⟨_, rfl⟩
  have hfn : fr ≠ nr := by omega
  rw [← hfb] at hF6
  rw [← hfr] at hV6 hF6 hfrl
  try rw [← hfb]
  rw [← hfr]
  clear hw6 hb6 hG5 hS5 hC5 hR5 hN5 hX5 hb15 g5 hnr5 hfr hfb hnbl
  have g6 := hG6.cellAt (i := 0) (v := .slice ga n gcap) rfl
  have hlen0 : n = ns0.length := by rw [hns0.out, List.length_replicate]
  have hrun0 : RunW w6 B (RD.mk gb fb rb sb nb fr nr ga gcap ra rcap so scap) n ops s recs ns0 ns0 :=
    ⟨hn.out, ⟨hlen0, hlen0⟩, hG6, hF6, hV6, by rw [← hm.out]; exact hR6, by rw [← hsl.out]; exact hS6, hX6, hN6, imp_ops hx (hb16.mono hB), hr.imp (hb16.mono hB) (Nat.le_refl _) (fun _ _ _ h => h.imp (hb16.mono hB) (Nat.le_refl _)), hs.imp' (hb16.mono hB) (Nat.le_refl _), hfn, Nat.le_trans hB hnrl⟩
  have hL0 : RunL w w6 B (RD.mk gb fb rb sb nb fr nr ga gcap ra rcap so scap) n ops s recs R cb 0 ns0 ns0 [] [] :=
    ⟨hrun0, fun j hj => absurd hj (Nat.not_lt_zero _), rfl, ⟨rfl, fun j hj => absurd hj (Nat.not_lt_zero _), fun j _ hj => by rw [hns0.out, List.getElem?_replicate, if_pos hj]⟩, hb16, hC6, hfrl, hnrl, by rw [List.drop_zero]; exact hR.out.symm⟩
  clear hrun0 hlen0 hG6 hF6 hV6 hR6 hS6 hX6 hN6 hC6 hb16 hmk hns0 hR
  go_wp2_with fail
  go_loopw [42] (fun x42 wr => ∃ (i : Nat) (vs ns : List Value) (f : List PRS) (nst : ST), i ≤ n ∧ x42 = .int .i64 i ∧ RunL w wr B (RD.mk gb fb rb sb nb fr nr ga gcap ra rcap so scap) n ops s recs R cb i vs ns f nst) (fun x42 _ => n - (intOf x42).toNat)
  case atStart => exact ⟨0, ns0, ns0, [], [], Nat.zero_le _, rfl, hL0⟩
  case round =>
    clear hL0 g6
    obtain ⟨i, vs, ns, f, nst, hi, rfl, hL⟩ := hrel
    by_cases hin : i < n
    · have d2 : decide ((i : Int) < (n : Int)) = true := by simp; omega
      have hio : i < ops.length := by rw [← hn.out]; exact hin
      obtain ⟨o, hoe⟩ : ∃ o, ops[i]? = some o := ⟨ops[i], List.getElem?_eq_getElem hio⟩
      have hoB := hokB.out i o hoe
      have hkz : (keptAt s i).length ≤ 5864062014805 := by
        unfold keptAt
        cases hg : s[i]? with
        | none => simp
        | some l => exact hsz l (List.mem_of_getElem? hg)
      have hd1 : Below wr.heap.size wr wr.drew := (Below.refl _ _).drew
      have hsl1 : s.length = 0 ∨ s.length = n := by rw [hn.out]; exact hsl0.out
      have hLd := hL.below hd1
      have hat : Calls Try.prog 28 #[.int .i64 i, .pointer (some ⟨gb, 0, none⟩), .pointer (some ⟨fb, 0, none⟩), .pointer (some ⟨rb, 0, none⟩), .pointer (some ⟨sb, 0, none⟩), .pointer (some ⟨nb, 0, none⟩)] wr.drew _ := at_any wr.drew hLd.mem hin o hoe hoB hLd.fnd hLd.fl (hLd.kp.nil i (Nat.le_refl _) hin) (by rw [← hm.out]; exact hshort) hsl1 (hsrt.out i) hsok hkz
      have f0 := hLd.mem.f.cellAt (i := 0) (v := .slice (some ⟨fr, 0, none⟩) n n) rfl
      have f1 := hL.mem.f.cellAt (i := 0) (v := .slice (some ⟨fr, 0, none⟩) n n) rfl
      replace hat := Lib.hid hat
      replace hoe := Lib.hid hoe
      replace hoB := Lib.hid hoB
      have hLh := Lib.hid hLd
      clear hd1 hkz hsl1 hL hLd
      go_upto_region 14 with fail
      refine wp_region_tree (fun wx => wx.cell? ⟨fb, 0, none⟩ = some (.slice (some ⟨fr, 0, none⟩) n n)) 5 7 (by kernel_rfl) rfl (by kernel_rfl) (fun d _ _ _ _ h => by cases d <;> exact h) (f0) (fun opz T hOps hT hTok hHeld => ?_)
      (refine wpTree_q 0 hTok hOps (by kernel_rfl) rfl rfl ⟨?_, ?_, ?_⟩; rotate_left; (focus (intro wx hSx; (try dsimp only at hSx); go_simp; (try with_reducible rfl))); (simp only [Act.put, List.setIfInBounds_toArray, List.set_cons_zero, List.set_cons_succ]))
      (refine wpTree_q 1 hTok hOps (by kernel_rfl) rfl rfl ⟨?_, ?_, ?_⟩; rotate_left; (focus (intro wx hSx; (try dsimp only at hSx); go_simp; (try with_reducible rfl))); (simp only [Act.put, List.setIfInBounds_toArray, List.set_cons_zero, List.set_cons_succ]))
      (refine wpTree_q 2 hTok hOps (by kernel_rfl) rfl rfl ⟨?_, ?_, ?_⟩; rotate_left; (focus (intro wx hSx; (try dsimp only at hSx); go_simp; (try with_reducible rfl))); (simp only [Act.put, List.setIfInBounds_toArray, List.set_cons_zero, List.set_cons_succ]))
      (refine wpTree_q 3 hTok hOps (by kernel_rfl) rfl rfl ⟨?_, ?_, ?_⟩; rotate_left; (focus (intro wx hSx; (try dsimp only at hSx); go_simp; (try with_reducible rfl))); (simp only [Act.put, List.setIfInBounds_toArray, List.set_cons_zero, List.set_cons_succ]))
      refine wpTree_1 4 hOps (by kernel_rfl) (by decide) rfl (fun K' hK => ?_)
      go_simp
      refine hat.out.mono ?_
      rintro e w7 ⟨v7, l7, kv, rfl, hown, hperm, hrw, hkv, hc⟩
      obtain ⟨vao, vcap, rfl, _, _, _⟩ := hown.slice
      obtain ⟨vl, hvl⟩ : ∃ vl, vl = l7.length := ⟨_, rfl⟩
      rw [← hvl] at hown ⊢
      have f7 := hrw.f.cellAt (i := 0) (v := .slice (some ⟨fr, 0, none⟩) n n) rfl
      have hvlm : vl ≤ 9223372036854775807 := by
        obtain ⟨_, _, e, h1, h2, _⟩ := hown.slice
        have := congrArg (fun v => match v with | Value.slice _ n _ => n | _ => 0) e
        unfold maxLen at h2
        simp only at this
        omega
      dsimp only
      refine hK.out _ _ f7 ?_
      clear hK K' hat f0 f1 hHeld
      try simp only [Act.put, List.setIfInBounds_toArray, List.set_cons_zero, List.set_cons_succ]
      refine wpTree_nil hOps (by kernel_rfl) ?_
      refine hT.out _ _ ?_
      simp only [List.drop_succ_cons, List.drop_zero]
      clear hTok hOps hT
      obtain ⟨x0, hx0⟩ : ∃ x, w7.cell? ⟨fr, i, none⟩ = some x := by
        have hlv := hrw.lens.1
        exact ⟨vs[i]'(by omega), by rw [hrw.frow.cell]; simp⟩
      have hf0 := hrw.frow.frozen i
      obtain ⟨hrw8, hb8, hC8⟩ := hLh.out.after hB (.slice vao vl vcap) hrw hc
      replace hvl := Lib.hid hvl
      go_upto_region 15 with fail
      refine Code.wp_world ?_
      intro w8 hw8
      dsimp only at hrw8 hb8 hC8
      rw [← hw8] at hrw8 hb8 hC8
      have f8 := hrw8.f.cellAt (i := 0) (v := .slice (some ⟨fr, 0, none⟩) n n) rfl
      have v8 : w8.cell? ⟨fr, i, none⟩ = some (.slice vao vl vcap) := by
        have hlv := hrw8.lens.1
        rw [List.length_set] at hlv
        exact hrw8.frow.cellAt (by rw [List.getElem?_toArray, List.getElem?_set_self (by omega)])
      have c8 := hC8.cellAt (i := 0) (v := .slice none 0 0) rfl
      have cf8 := hC8.frozen 0
      by_cases hlong : 4096 < vl
      · have d3 : decide ((4096 : Int) < (vl : Int)) = true := by simp; omega
        have hRn : R = none := hLh.out.long hin hoe.out hperm (by rw [← hvl.out]; exact hlong)
        subst hRn
        clear hrw8 hw8 hown hperm hrw hkv hc f7 hx0 hf0 hLh
        go_wp2_with fail
        refine bodyPost_ret (results_tct rfl _ _ cb _ rfl (run_loadVar_row _ cb 27 _ _ (0, 0) _ (hC8.set 0 _) Try.underlying27 rfl (by kernel_rfl))) rfl ?_
        exact RunPost2.bad (k := 2) (hb8.setCell (by simp; omega) _)
      · have d3 : decide ((4096 : Int) < (vl : Int)) = false := by simp; omega
        have hLn := hLh.out.step hin hsok hoe.out hoB.out hB hown hperm hrw hkv hc (by rw [← hvl.out]; omega)
        dsimp only at hLn
        rw [← hw8] at hLn
        clear hrw8 hb8 hC8 hw8 hown hperm hrw hkv hc f7 hx0 hf0 hLh c8 cf8
        go_wp2_with fail
        go_roundw
        case rel => exact ⟨i + 1, _, _, _, _, by omega, by go_num, hLn⟩
        case measure => simp [intOf]; omega
    · have d2 : decide ((i : Int) < (n : Int)) = false := by simp; omega
      obtain rfl : n = i := by omega
      have hRf := hL.fin
      subst hRf
      obtain ⟨q, rfl⟩ : ∃ q, n = q + 1 := ⟨n - 1, by omega⟩
      have hqf : q < f.length := by rw [hL.fl]; omega
      obtain ⟨v, l, hv, hown, hperm, _, hll⟩ := hL.fnd q hqf
      have hlg : ∀ q', q + 1 = q' + 1 → ∃ g, f[q']? = some g ∧ l.Perm g := fun q' e => by
        obtain rfl : q = q' := by omega
        exact ⟨f[q], List.getElem?_eq_getElem hqf, hperm⟩
      obtain ⟨ao, cap, rfl, hPl⟩ := OwnR.pra hown
      have hd1 : Below wr.heap.size wr wr.drew := (Below.refl _ _).drew
      have hor := order_any l ao cap wr.heap.size wr.drew (Nat.le_refl _) (hPl.imp' hd1 (Nat.le_refl _)) (by omega)
      obtain ⟨vl, hvl⟩ : ∃ vl, vl = l.length := ⟨_, rfl⟩
      rw [← hvl] at hv hor hll
      have hvq : q < vs.length := by have := hL.mem.lens.1; omega
      have f0 := hL.mem.f.cellAt (i := 0) (v := .slice (some ⟨fr, 0, none⟩) (q + 1) (q + 1)) rfl
      have v0 := hL.mem.frow.cellAt (i := q) (v := .slice ao vl cap) (by rw [List.getElem?_toArray]; exact hv)
      have n0 := hL.mem.nx.cellAt (i := 0) (v := .slice (some ⟨nr, 0, none⟩) (q + 1) (q + 1)) rfl
      dsimp only at f0 v0 n0
      have hfbl := hL.mem.f.lt
      have hfrl2 := hL.mem.frow.lt
      have hnbl := hL.mem.nx.lt
      dsimp only at hfbl hfrl2 hnbl
      replace hor := Lib.hid hor
      replace hvl := Lib.hid hvl
      have hLh := Lib.hid hL
      clear hL hown hPl hv hperm
      have hwq : IntKind.i64.wrap (q : Int) = (q : Int) := IntWalk.i64_in _ (by omega)
      have hqlt : q < q + 1 := Nat.lt_succ_self q
      go_upto_region 18 with fail
      refine wp_region_tree (fun wx => wx.cell? ⟨fb, 0, none⟩ = some (.slice (some ⟨fr, 0, none⟩) (q + 1) (q + 1)) ∧ wx.cell? ⟨fr, q, none⟩ = some (.slice ao vl cap) ∧ wx.cell? ⟨nb, 0, none⟩ = some (.slice (some ⟨nr, 0, none⟩) (q + 1) (q + 1))) 9 11 (by kernel_rfl) rfl (by kernel_rfl) (fun d _ _ _ _ h => by cases d <;> exact h) (⟨f0, v0, n0⟩) (fun opz T hOps hT hTok hHeld => ?_)
      (refine wpTree_q 0 hTok hOps (by kernel_rfl) rfl rfl ⟨?_, ?_, ?_⟩; rotate_left; (focus (intro wx hSx; (try dsimp only at hSx); go_simp; (try with_reducible rfl))); (simp only [Act.put, List.setIfInBounds_toArray, List.set_cons_zero, List.set_cons_succ]))
      (refine wpTree_q 1 hTok hOps (by kernel_rfl) rfl rfl ⟨?_, ?_, ?_⟩; rotate_left; (focus (intro wx hSx; (try dsimp only at hSx); go_simp; (try with_reducible rfl))); (simp only [Act.put, List.setIfInBounds_toArray, List.set_cons_zero, List.set_cons_succ]))
      (refine wpTree_q 2 hTok hOps (by kernel_rfl) rfl rfl ⟨?_, ?_, ?_⟩; rotate_left; (focus (intro wx hSx; (try dsimp only at hSx); go_simp; (try with_reducible rfl))); (simp only [Act.put, List.setIfInBounds_toArray, List.set_cons_zero, List.set_cons_succ]))
      (refine wpTree_q 3 hTok hOps (by kernel_rfl) rfl rfl ⟨?_, ?_, ?_⟩; rotate_left; (focus (intro wx hSx; (try dsimp only at hSx); go_simp; (try with_reducible rfl))); (simp only [Act.put, List.setIfInBounds_toArray, List.set_cons_zero, List.set_cons_succ]))
      (refine wpTree_qg 4 hTok hOps (by kernel_rfl) rfl rfl ⟨?_, ?_, ?_⟩; rotate_left; (focus (intro wx hSx; (try dsimp only at hSx); go_simp; rw [if_pos (by omega)])); (simp only [Act.put, List.setIfInBounds_toArray, List.set_cons_zero, List.set_cons_succ]))
      (refine wpTree_q 5 hTok hOps (by kernel_rfl) rfl rfl ⟨?_, ?_, ?_⟩; rotate_left; (focus (intro wx hSx; (try dsimp only at hSx); go_simp; (try with_reducible rfl))); (simp only [Act.put, List.setIfInBounds_toArray, List.set_cons_zero, List.set_cons_succ]))
      (refine wpTree_q 7 hTok hOps (by kernel_rfl) rfl rfl ⟨?_, ?_, ?_⟩; rotate_left; (focus (intro wx hSx; (try dsimp only at hSx); go_simp; (try with_reducible rfl))); (simp only [Act.put, List.setIfInBounds_toArray, List.set_cons_zero, List.set_cons_succ]))
      refine wpTree_1 6 hOps (by kernel_rfl) (by decide) rfl (fun K' hK => ?_)
      go_simp
      refine hor.out.mono ?_
      rintro e w9 ⟨v9, rfl, hown9, hb9⟩
      have hb19 : Below wr.heap.size wr w9 := hd1.trans (hb9.mono (Nat.le_refl _))
      dsimp only
      refine hK.out _ _ ⟨(hb19.cell (p := ⟨fb, 0, none⟩) hfbl).trans f0, (hb19.cell (p := ⟨fr, q, none⟩) hfrl2).trans v0, (hb19.cell (p := ⟨nb, 0, none⟩) hnbl).trans n0⟩ ?_
      clear hK K' hor f0 v0 n0 hHeld
      try simp only [Act.put, List.setIfInBounds_toArray, List.set_cons_zero, List.set_cons_succ]
      (refine wpTree_q 8 hTok hOps (by kernel_rfl) rfl rfl ⟨?_, ?_, ?_⟩; rotate_left; (focus (intro wx hSx; (try dsimp only at hSx); go_simp; (try with_reducible rfl))); (simp only [Act.put, List.setIfInBounds_toArray, List.set_cons_zero, List.set_cons_succ]))
      refine wpTree_nil hOps (by kernel_rfl) ?_
      refine hT.out _ _ ?_
      simp only [List.drop_succ_cons, List.drop_zero]
      clear hTok hOps hT
      have hC9 := (hLh.out.below hb19).cB
      have c9 := hC9.cellAt (i := 0) (v := .slice none 0 0) rfl
      have cf9 := hC9.frozen 0
      go_wp2_with fail
      refine bodyPost_ret (results_tct rfl _ _ cb _ rfl (run_loadVar_row _ cb 27 _ _ (0, 0) _ (hC9.set 0 _) Try.underlying27 rfl (by kernel_rfl))) rfl ?_
      exact hLh.out.done (by omega) hn16 hcbl hb19 hown9 hlg
theorem run_ok (ops : List TOp) (s : ST) (recs : List TRecord) (ga so ra : Option Addr) (gcap scap rcap B : Nat) (w : World) (hB : B ≤ w.heap.size) (hx : SlA B 7 (ROp B) w ga gcap ops) (hs : StA w B so scap s) (hr : SlA B 5 (RRecord B) w ra rcap recs) (hok : (gcheck ops).2 = 0) (hgd : goodS ops s = true) (hshort : recs.length ≤ 512)
    (hsok : okS s) (hsz : ∀ l ∈ s, l.length ≤ 5864062014805) :
    Calls Try.prog 10 #[.agg #[.slice ga ops.length gcap], .agg #[.slice so s.length scap], .slice ra recs.length rcap] w (RunPost w (match runF s recs ops [] [] with | none => ([], [], 2) | some (f, n) => (sortP (f.getLast?.getD []), n, 0))) :=
  (run_ok2 ops s recs ga so ra gcap scap rcap B w hB hx hs hr hok hgd hshort hsok hsz).mono (fun _ _ h => h.post)
end Go.Proofs.Ytbianedgogdeeaa
