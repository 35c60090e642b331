/- Disk: Sync. -/
import Derived.Test.YtjgiphoolfhlmaaDi
import Derived.Test.YtjgiphoolfhlmaaL6
namespace Go.Proofs.Ytjgiphoolfhlmaa
open Go.RowKit Go.Maps
attribute [local go_sem] Oper.semAt_some
set_option linter.unusedVariables false
set_option linter.unusedSimpArgs false

/-- Other changes. -/
theorem Dsk.setChs {w : World} {base b : Nat} {x : DX} {M : DM} (h : Dsk w base b x M) {v' : Value} {l : List CH} (hown : OwnL encC w base 73 4 v' l) (hsub : ∀ c ∈ l, FileAt w base c.d.v c.d.bs) :
    Dsk (w.setCell ⟨b, 4, none⟩ v') base b { x with cv := v', chs := l } { M with chs := l.map CH.abs } := by
  have hc2 : Chg (fun k => k = b) w (w.setCell ⟨b, 4, none⟩ v') := (Chg.refl _ _).setCell _ _ (fun _ => rfl)
  have hU : ∀ k, k = b → ∀ cs, ¬ Blk w k cs 5 := fun k hk => h.noU8 k (.inl hk)
  exact ⟨by simpa using h.blk.set 4 v', h.mapn.chg hc2 (fun e => h.mapn.ne_blk h.blk e), h.maps.chg hc2 (fun e => h.maps.ne_blk h.blk e), hown.chg hc2 (fun g e1 e2 => hown.ne_blk h.blk (by decide) (by rw [e1, e2])), fun p hp => (h.filn p hp).chg hc2 hU, fun p hp => (h.fils p hp).chg hc2 hU, fun c hc3 => (hsub c hc3).chg hc2 hU, h.permn, h.perms, rfl, h.ne, h.bb, h.bn, h.bm⟩

set_option maxRecDepth 100000 in
set_option maxHeartbeats 4000000 in
theorem sync_any {base b : Nat} {x : DX} {M : DM} {N : Nat} (s : ByteArray) (w : World) (hs : s.size ≤ maxLen) (h : Dsk w base b x M) (hok : OkM N M) (hN : N ≤ 1000000) (hb : base ≤ w.heap.size) :
    Calls Try.prog 26 #[.pointer (some ⟨b, 0, none⟩), .string s] w fun e w' => e = .returned (.int .i64 (syncM M s).1) ∧ DStep w base b x (syncM M s).2 w' := by
  obtain ⟨er, her⟩ : ∃ er, er = readyM M s 0 := ⟨_, rfl⟩
  have hrd : ∀ w1, Below w.heap.size w w1 → Calls Try.prog 39 #[.pointer (some ⟨b, 0, none⟩), .string s, .int .i64 0] w1 fun e w' => e = .returned (.int .i64 (er : Nat)) ∧ Below w1.heap.size w1 w' := fun w1 h1 => by rw [her]; exact ready_any b M s 0 w1 hs (h.below h1).c1
  have hba : Below w.heap.size w (w.alloc (.cells #[.string s] 9)) := belowAlloc _ _
  by_cases he : er = 0
  · subst he
    obtain ⟨rs, hrs⟩ : ∃ rs, rs = syncM M s := ⟨_, rfl⟩
    rw [← hrs]
    have hgn := get_abs h.permn hok.now s
    have hgs := get_abs h.perms hok.safe s
    have hen := getE_getL x.now s
    have hes := getE_getL x.safe s
    obtain ⟨f, hfo⟩ : ∃ f, f = fileOf x.now s := ⟨_, rfl⟩
    have hfa : FileAt w base f.v f.bs := by rw [hfo]; exact fileOf_at h.filn s
    have hlk : (getE (entF x.now) s).getD (.slice none 0 0) = f.v := by rw [hfo]; exact fileOf_v x.now s
    obtain ⟨g2, hgo2⟩ : ∃ g2, g2 = fileOf x.safe s := ⟨_, rfl⟩
    have hlk2 : (getE (entF x.safe) s).getD (.slice none 0 0) = g2.v := by rw [hgo2]; exact fileOf_v x.safe s
    obtain ⟨in0, hin0⟩ : ∃ in0, in0 = (getL M.now s).isSome := ⟨_, rfl⟩
    obtain ⟨in1, hin1⟩ : ∃ in1, in1 = (getL M.safe s).isSome := ⟨_, rfl⟩
    have hi0 : (getE (entF x.now) s).isSome = in0 := by rw [hin0, hgn, hen]; simp
    have hi1 : (getE (entF x.safe) s).isSome = in1 := by rw [hin1, hgs, hes]; simp
    obtain ⟨m, hm⟩ : ∃ m, m = f.bs.length := ⟨_, rfl⟩
    have hfv : f.v = .slice f.ao m f.cap := by rw [hm]; rfl
    obtain ⟨m2, hm2⟩ : ∃ m2, m2 = g2.bs.length := ⟨_, rfl⟩
    have hgv : g2.v = .slice g2.ao m2 g2.cap := by rw [hm2]; rfl
    rw [hfv] at hlk
    rw [hgv] at hlk2
    have hfb : f.bs = bytesOf M.now s := by rw [hfo]; exact fileOf_bs h.permn hok.now s
    have hm30 : m ≤ 1073741824 := by rw [hm, hfb]; exact bytesOf_le (fun p hp => (hok.nown p hp).2) s
    have hsy : rs = if in0 = false ∧ in1 = false ∧ (leftC M.chs s).length = M.chs.length then (7, M) else (0, { M with chs := leftC M.chs s, safe := if in0 = true then withL M.safe s f.bs else withoutL M.safe s }) := by
      rw [hrs]
      unfold syncM
      rw [← her]
      simp only [ne_eq, not_true, if_false]
      have e0 : getL M.now s = none ↔ in0 = false := by rw [hin0]; cases getL M.now s <;> simp
      have e1 : getL M.safe s = none ↔ in1 = false := by rw [hin1]; cases getL M.safe s <;> simp
      by_cases hc : in0 = false ∧ in1 = false ∧ (leftC M.chs s).length = M.chs.length
      · rw [if_pos hc, if_pos ⟨e0.2 hc.1, e1.2 hc.2.1, hc.2.2⟩]
      · rw [if_neg hc, if_neg (fun h => hc ⟨e0.1 h.1, e1.1 h.2.1, h.2.2⟩)]
        cases hq : getL M.now s with
        | none => rw [e0.1 hq]; rfl
        | some bb =>
          have : in0 = true := by rw [hin0, hq]; rfl
          rw [this, hfb]
          unfold bytesOf
          rw [hq]
          rfl
    replace hsy := Lib.hid hsy
    replace hm := Lib.hid hm
    replace hfb := Lib.hid hfb
    clear hfo hgo2 hin0 hin1 hgn hgs hen hes hfv hgv hm2 hrs her
    have hlen : x.chs.length ≤ 1000000 := Nat.le_trans (chsN h hok) hN
    go_enter Try.func26, Try.ntmps26
    go_wp2_with fail
    refine (hrd _ hba).mono ?_
    rintro e w1 ⟨rfl, hb1⟩
    have hb1' : Below w.heap.size w w1 := hba.trans (hb1.mono hba.size)
    have hnb : w1.cell? ⟨w.heap.size, 0, none⟩ = some (.string s) := (hb1.cell (p := ⟨w.heap.size, 0, none⟩) (by simp)).trans ((Blk.new w #[.string s] 9).cellAt rfl)
    clear hrd hba hb1
    have h1 := h.below hb1'
    have c2 := h1.c2
    have c3 := h1.c3
    dsimp only
    go_upto_region 4 with fail
    refine wp_region_tree (fun wx => wx.cell? ⟨b, 2, none⟩ = some (.map (some x.mn)) ∧ wx.cell? ⟨w.heap.size, 0, none⟩ = some (.string s)) 10 11 (by kernel_rfl) rfl (by kernel_rfl) (fun d _ _ _ _ h => by cases d <;> exact h) (⟨c2, hnb⟩) (fun opz T hOps hT hTok hHeld => ?_)
    (refine wpTree_q 0 hTok hOps (by kernel_rfl) rfl rfl ⟨?_, ?_, ?_⟩; rotate_left; (focus (intro wx hSx; (try dsimp only at hSx); go_simp; (try with_reducible rfl))); (simp only [Act.put, List.setIfInBounds_toArray, List.set_cons_zero, List.set_cons_succ]))
    (refine wpTree_q 1 hTok hOps (by kernel_rfl) rfl rfl ⟨?_, ?_, ?_⟩; rotate_left; (focus (intro wx hSx; (try dsimp only at hSx); go_simp; (try with_reducible rfl))); (simp only [Act.put, List.setIfInBounds_toArray, List.set_cons_zero, List.set_cons_succ]))
    (refine wpTree_q 2 hTok hOps (by kernel_rfl) rfl rfl ⟨?_, ?_, ?_⟩; rotate_left; (focus (intro wx hSx; (try dsimp only at hSx); go_simp; (try with_reducible rfl))); (simp only [Act.put, List.setIfInBounds_toArray, List.set_cons_zero, List.set_cons_succ]))
    (refine wpTree_q 3 hTok hOps (by kernel_rfl) rfl rfl ⟨?_, ?_, ?_⟩; rotate_left; (focus (intro wx hSx; (try dsimp only at hSx); go_simp; (try with_reducible rfl))); (simp only [Act.put, List.setIfInBounds_toArray, List.set_cons_zero, List.set_cons_succ]))
    (refine wpTree_q 4 hTok hOps (by kernel_rfl) rfl rfl ⟨?_, ?_, ?_⟩; rotate_left; (focus (intro wx hSx; (try dsimp only at hSx); go_simp; (try with_reducible rfl))); (simp only [Act.put, List.setIfInBounds_toArray, List.set_cons_zero, List.set_cons_succ]))
    refine wpTree_1 5 hOps (by kernel_rfl) (by decide) rfl (fun K' hK => ?_)
    have hMd := (h.below hb1'.drew).mapn
    refine step_lookupL rfl _ _ _ _ rfl keyN hMd Try.underlying52 (zeroB _) (x := s) hs rfl rfl ?_
    simp only [if_true, hlk, hi0]
    refine hK.out _ _ ⟨c2, hnb⟩ ?_
    clear hK K'
    try simp only [Act.put, List.setIfInBounds_toArray, List.set_cons_zero, List.set_cons_succ]
    (refine wpTree_q 6 hTok hOps (by kernel_rfl) rfl rfl ⟨?_, ?_, ?_⟩; rotate_left; (focus (intro wx hSx; (try dsimp only at hSx); go_simp; (try with_reducible rfl))); (simp only [Act.put, List.setIfInBounds_toArray, List.set_cons_zero, List.set_cons_succ]))
    (refine wpTree_q 7 hTok hOps (by kernel_rfl) rfl rfl ⟨?_, ?_, ?_⟩; rotate_left; (focus (intro wx hSx; (try dsimp only at hSx); go_simp; (try with_reducible rfl))); (simp only [Act.put, List.setIfInBounds_toArray, List.set_cons_zero, List.set_cons_succ]))
    (refine wpTree_q 9 hTok hOps (by kernel_rfl) rfl rfl ⟨?_, ?_, ?_⟩; rotate_left; (focus (intro wx hSx; (try dsimp only at hSx); go_simp; (try with_reducible rfl))); (simp only [Act.put, List.setIfInBounds_toArray, List.set_cons_zero, List.set_cons_succ]))
    (refine wpTree_q 8 hTok hOps (by kernel_rfl) rfl rfl ⟨?_, ?_, ?_⟩; rotate_left; (focus (intro wx hSx; (try dsimp only at hSx); go_simp; (try with_reducible rfl))); (simp only [Act.put, List.setIfInBounds_toArray, List.set_cons_zero, List.set_cons_succ]))
    refine wpTree_nil hOps (by kernel_rfl) ?_
    refine hT.out _ _ ?_
    simp only [List.drop_succ_cons, List.drop_zero]
    clear hOps hT hTok hHeld
    go_upto_region 5 with fail
    refine wp_region_tree (fun wx => wx.cell? ⟨b, 3, none⟩ = some (.map (some x.md)) ∧ wx.cell? ⟨w.heap.size, 0, none⟩ = some (.string s)) 10 11 (by kernel_rfl) rfl (by kernel_rfl) (fun d _ _ _ _ h => by cases d <;> exact h) (⟨c3, hnb⟩) (fun opz T hOps hT hTok hHeld => ?_)
    (refine wpTree_q 0 hTok hOps (by kernel_rfl) rfl rfl ⟨?_, ?_, ?_⟩; rotate_left; (focus (intro wx hSx; (try dsimp only at hSx); go_simp; (try with_reducible rfl))); (simp only [Act.put, List.setIfInBounds_toArray, List.set_cons_zero, List.set_cons_succ]))
    (refine wpTree_q 1 hTok hOps (by kernel_rfl) rfl rfl ⟨?_, ?_, ?_⟩; rotate_left; (focus (intro wx hSx; (try dsimp only at hSx); go_simp; (try with_reducible rfl))); (simp only [Act.put, List.setIfInBounds_toArray, List.set_cons_zero, List.set_cons_succ]))
    (refine wpTree_q 2 hTok hOps (by kernel_rfl) rfl rfl ⟨?_, ?_, ?_⟩; rotate_left; (focus (intro wx hSx; (try dsimp only at hSx); go_simp; (try with_reducible rfl))); (simp only [Act.put, List.setIfInBounds_toArray, List.set_cons_zero, List.set_cons_succ]))
    (refine wpTree_q 3 hTok hOps (by kernel_rfl) rfl rfl ⟨?_, ?_, ?_⟩; rotate_left; (focus (intro wx hSx; (try dsimp only at hSx); go_simp; (try with_reducible rfl))); (simp only [Act.put, List.setIfInBounds_toArray, List.set_cons_zero, List.set_cons_succ]))
    (refine wpTree_q 4 hTok hOps (by kernel_rfl) rfl rfl ⟨?_, ?_, ?_⟩; rotate_left; (focus (intro wx hSx; (try dsimp only at hSx); go_simp; (try with_reducible rfl))); (simp only [Act.put, List.setIfInBounds_toArray, List.set_cons_zero, List.set_cons_succ]))
    refine wpTree_1 5 hOps (by kernel_rfl) (by decide) rfl (fun K' hK => ?_)
    have hMd2 := (h.below hb1'.drew.drew).maps
    refine step_lookupL rfl _ _ _ _ rfl keyN hMd2 Try.underlying52 (zeroB _) (x := s) hs rfl rfl ?_
    simp only [if_true, hlk2, hi1]
    refine hK.out _ _ ⟨c3, hnb⟩ ?_
    clear hK K'
    try simp only [Act.put, List.setIfInBounds_toArray, List.set_cons_zero, List.set_cons_succ]
    (refine wpTree_q 6 hTok hOps (by kernel_rfl) rfl rfl ⟨?_, ?_, ?_⟩; rotate_left; (focus (intro wx hSx; (try dsimp only at hSx); go_simp; (try with_reducible rfl))); (simp only [Act.put, List.setIfInBounds_toArray, List.set_cons_zero, List.set_cons_succ]))
    (refine wpTree_q 7 hTok hOps (by kernel_rfl) rfl rfl ⟨?_, ?_, ?_⟩; rotate_left; (focus (intro wx hSx; (try dsimp only at hSx); go_simp; (try with_reducible rfl))); (simp only [Act.put, List.setIfInBounds_toArray, List.set_cons_zero, List.set_cons_succ]))
    (refine wpTree_q 9 hTok hOps (by kernel_rfl) rfl rfl ⟨?_, ?_, ?_⟩; rotate_left; (focus (intro wx hSx; (try dsimp only at hSx); go_simp; (try with_reducible rfl))); (simp only [Act.put, List.setIfInBounds_toArray, List.set_cons_zero, List.set_cons_succ]))
    (refine wpTree_q 8 hTok hOps (by kernel_rfl) rfl rfl ⟨?_, ?_, ?_⟩; rotate_left; (focus (intro wx hSx; (try dsimp only at hSx); go_simp; (try with_reducible rfl))); (simp only [Act.put, List.setIfInBounds_toArray, List.set_cons_zero, List.set_cons_succ]))
    refine wpTree_nil hOps (by kernel_rfl) ?_
    refine hT.out _ _ ?_
    simp only [List.drop_succ_cons, List.drop_zero]
    clear hOps hT hTok hHeld
    go_upto_region 6 with fail
    refine Code.wp_world ?_
    intro w2 hw2
    have hb2 : Below w.heap.size w w2 := by rw [hw2]; exact hb1'.drew.drew
    have hnb2 : w2.cell? ⟨w.heap.size, 0, none⟩ = some (.string s) := by rw [hw2]; exact hnb
    clear hw2 hMd hMd2 c2 c3 hb1' h1 hnb hlk hlk2 hi0 hi1
    have h2 := h.below hb2
    obtain ⟨ca, cc, hcv, _, _, _⟩ := h2.row.slice
    have c4 := h2.c4
    have hcon := contains_any s w.heap.size base x.cv x.chs w2 hnb2 h2.row hlen
    obtain ⟨L, hL⟩ : ∃ L, L = x.chs.length := ⟨_, rfl⟩
    rw [hcv, ← hL] at c4
    obtain ⟨cnt, hcnt⟩ : ∃ cnt, cnt = decide ((leftH x.chs s).length ≠ x.chs.length) := ⟨_, rfl⟩
    rw [← hcnt, hcv, ← hL] at hcon
    replace hcnt := Lib.hid hcnt
    replace hL := Lib.hid hL
    replace hcv := Lib.hid hcv
    go_upto_region 7 with fail
    go_cut [50] from 36 (fun s50 wx => s50 = .bool (!in0 && !in1 && !cnt) ∧ Below w2.heap.size w2 wx)
    case first =>
      cases in0 with
      | true =>
        go_wp2_with fail
        go_meet
        case rel => exact ⟨by simp, Below.refl _ _⟩
      | false =>
        cases in1 with
        | true =>
          go_wp2_with fail
          go_meet
          case rel => exact ⟨by simp, Below.refl _ _⟩
        | false =>
          go_wp2_with fail
          refine hcon.mono ?_
          rintro e w3 ⟨rfl, hb3⟩
          dsimp only
          go_wp2_with fail
          go_meet
          case rel => exact ⟨by simp, hb3⟩
    case rest =>
      obtain ⟨rfl, hbc⟩ := hcut
      obtain ⟨w3, hw3⟩ : ∃ w3, w3 = wc := ⟨_, rfl⟩
      rw [← hw3] at hbc ⊢
      clear hw3 hcon c4 h2
      have hb3 : Below w.heap.size w w3 := hb2.trans (hbc.mono hb2.size)
      have hnb3 : w3.cell? ⟨w.heap.size, 0, none⟩ = some (.string s) := (hbc.cell (p := ⟨w.heap.size, 0, none⟩) (World.lt_of_cell hnb2)).trans hnb2
      clear hbc hnb2 hb2
      have hcl2 : (leftC M.chs s).length = M.chs.length ↔ cnt = false := by
        rw [hcnt.out, ← h.chq, ← leftH_abs, List.length_map, List.length_map]
        simp
      obtain ⟨nn, hnn⟩ : ∃ nn, nn = (!in0 && !in1 && !cnt) := ⟨_, rfl⟩
      rw [← hnn]
      have hrq : rs = if nn = true then (7, M) else (0, { M with chs := leftC M.chs s, safe := if in0 = true then withL M.safe s f.bs else withoutL M.safe s }) := by
        rw [hsy.out]
        have hiff : (in0 = false ∧ in1 = false ∧ (leftC M.chs s).length = M.chs.length) ↔ nn = true := by
          rw [hcl2, hnn]
          cases in0 <;> cases in1 <;> cases cnt <;> simp
        by_cases hc : nn = true
        · rw [if_pos hc, if_pos (hiff.2 hc)]
        · rw [if_neg hc, if_neg (fun h => hc (hiff.1 h))]
      clear hnn hcl2 hsy hcnt
      cases nn with
      | true =>
        obtain rfl : rs = (7, M) := hrq
        have hgo := DStep.same h hb3
        go_wp2_with fail
        go_ret
        exact ⟨rfl, hgo⟩
      | false =>
        replace hrq : Hid (rs = (0, { M with chs := leftC M.chs s, safe := if in0 = true then withL M.safe s f.bs else withoutL M.safe s })) := Lib.hid hrq
        have h3 := h.below hb3
        have c4 := h3.c4
        rw [hcv.out, ← hL.out] at c4
        have hcd := cloneC_any x.chs base x.cv w3 h3.row hlen
        rw [hcv.out, ← hL.out] at hcd
        have hblt := h3.blk.lt
        have hsz3 := hb3.size
        have hnblt := World.lt_of_cell hnb3
        dsimp only at hnblt
        go_wp2_with fail
        refine hcd.mono ?_
        rintro e w4 ⟨v4, rfl, hown4, hb4⟩
        have hnb4 := (hb4.cell (p := ⟨w.heap.size, 0, none⟩) hnblt).trans hnb3
        have hdl := delete_any s w.heap.size w3.heap.size v4 x.chs w4 hnb4 hown4 hlen (fun g hg e => by have := (hown4.lt g hg).1; omega)
        dsimp only
        go_wp2_with fail
        refine hdl.mono ?_
        rintro e w5 ⟨v5, rfl, hown5, hvo5, hc5⟩
        have hb5 : Below w.heap.size w w5 := (hb3.trans (hb4.mono hsz3)).trans (hc5.below (by have := hb4.size; omega) (fun k hk e => by have := (hown4.lt k e).1; omega))
        have h5 := h.below hb5
        have hnb5 : w5.cell? ⟨w.heap.size, 0, none⟩ = some (.string s) := (hc5.cell (p := ⟨w.heap.size, 0, none⟩) (Nat.lt_of_lt_of_le hnblt hb4.size) (fun e => by have := (hown4.lt _ e).1; simp only at this; omega)).trans hnb4
        have h6 := h5.setChs (hown5.base_le (Nat.le_trans hb hsz3)) (fun c hc => h5.filc c (List.mem_filter.1 hc).1)
        have hvb : ∀ k, v5.ownBlock = some k → w.heap.size ≤ k := fun k hk => Nat.le_trans hsz3 (hown5.lt k hk).1
        have c45 := h5.c4
        rw [hcv.out, ← hL.out] at c45
        have cf5 := h5.blk.frozen 4
        have hc6 : Chg (DS x b) w (w5.setCell ⟨b, 4, none⟩ v5) := (((Chg.of_below hb5).mono (fun k h1 h2 => by omega))).setCell _ _ (fun _ => .inl rfl)
        have hds6 : ∀ k, DS { x with cv := v5, chs := leftH x.chs s } b k → DS x b k ∨ w.heap.size ≤ k := by
          rintro k (hk | hk | hk | hk)
          · exact .inl (.inl hk)
          · exact .inl (.inr (.inl hk))
          · exact .inl (.inr (.inr (.inl hk)))
          · exact .inr (hvb k hk)
        rw [leftH_abs, h.chq] at h6
        have hnb6 : (w5.setCell ⟨b, 4, none⟩ v5).cell? ⟨w.heap.size, 0, none⟩ = some (.string s) := by
          rw [World.cell?_setCell_other _ _ _ _ (fun e => by have := h.blk.lt; injection e with e1; omega)]
          exact hnb5
        obtain ⟨a5, cc5, hv5, _, _, _⟩ := hown5.slice
        obtain ⟨L5, hL5⟩ : ∃ L5, L5 = (leftH x.chs s).length := ⟨_, rfl⟩
        rw [← hL5] at hv5
        subst hv5
        replace hL5 := Lib.hid hL5
        clear hown5 hvo5 hc5 hdl hown4 hb4 hnb4 hcd h3 c4 h5 hvb hnb5 hcv hL hlen
        dsimp only
        go_upto_region 10 with fail
        obtain ⟨w6, hw6⟩ : ∃ w6, w6 = w5.setCell ⟨b, 4, none⟩ (.slice a5 L5 cc5) := ⟨_, rfl⟩
        rw [← hw6] at h6 hc6 hnb6 ⊢
        clear hw6 c45 cf5
        have c3 := h6.c3
        dsimp only at c3
        have hml : (entF x.safe).length < maxLen := by have := safeN h hok; unfold maxLen; omega
        cases in0 with
        | true =>
          go_upto_region 11 with fail
          have hf6 : FileAt w6 base f.v f.bs := hfa.chg hc6 (fun k hk => h.noU8 k hk)
          have hb6 : base ≤ w6.heap.size := Nat.le_trans hb hc6.size
          have hcl := clone_any f.bs f.ao f.cap base w6.drew hb6 ((slaf hf6).imp ((Below.refl _ _).drew) (Nat.le_refl _) (fun cs x _ h => h)) (by rw [← hm.out]; omega)
          rw [← hm.out] at hcl
          refine wp_region_tree (fun wx => wx.cell? ⟨b, 3, none⟩ = some (.map (some x.md)) ∧ wx.cell? ⟨w.heap.size, 0, none⟩ = some (.string s)) 7 8 (by kernel_rfl) rfl (by kernel_rfl) (fun d _ _ _ _ h => by cases d <;> exact h) (⟨c3, hnb6⟩) (fun opz T hOps hT hTok hHeld => ?_)
          (refine wpTree_q 0 hTok hOps (by kernel_rfl) rfl rfl ⟨?_, ?_, ?_⟩; rotate_left; (focus (intro wx hSx; (try dsimp only at hSx); go_simp; (try with_reducible rfl))); (simp only [Act.put, List.setIfInBounds_toArray, List.set_cons_zero, List.set_cons_succ]))
          (refine wpTree_q 1 hTok hOps (by kernel_rfl) rfl rfl ⟨?_, ?_, ?_⟩; rotate_left; (focus (intro wx hSx; (try dsimp only at hSx); go_simp; (try with_reducible rfl))); (simp only [Act.put, List.setIfInBounds_toArray, List.set_cons_zero, List.set_cons_succ]))
          (refine wpTree_q 2 hTok hOps (by kernel_rfl) rfl rfl ⟨?_, ?_, ?_⟩; rotate_left; (focus (intro wx hSx; (try dsimp only at hSx); go_simp; (try with_reducible rfl))); (simp only [Act.put, List.setIfInBounds_toArray, List.set_cons_zero, List.set_cons_succ]))
          (refine wpTree_q 3 hTok hOps (by kernel_rfl) rfl rfl ⟨?_, ?_, ?_⟩; rotate_left; (focus (intro wx hSx; (try dsimp only at hSx); go_simp; (try with_reducible rfl))); (simp only [Act.put, List.setIfInBounds_toArray, List.set_cons_zero, List.set_cons_succ]))
          (refine wpTree_q 4 hTok hOps (by kernel_rfl) rfl rfl ⟨?_, ?_, ?_⟩; rotate_left; (focus (intro wx hSx; (try dsimp only at hSx); go_simp; (try with_reducible rfl))); (simp only [Act.put, List.setIfInBounds_toArray, List.set_cons_zero, List.set_cons_succ]))
          (refine wpTree_q 5 hTok hOps (by kernel_rfl) rfl rfl ⟨?_, ?_, ?_⟩; rotate_left; (focus (intro wx hSx; (try dsimp only at hSx); go_simp; (try with_reducible rfl))); (simp only [Act.put, List.setIfInBounds_toArray, List.set_cons_zero, List.set_cons_succ]))
          refine wpTree_1 6 hOps (by kernel_rfl) (by decide) rfl (fun K' hK => ?_)
          go_simp
          refine hcl.mono ?_
          rintro e w7 ⟨v7, rfl, hown7, hb7⟩
          have hf7w : FileAt w7 w.heap.size v7 f.bs := (FileAt.own hown7).base_le hc6.size
          have hf7 : FileAt w7 base v7 f.bs := (FileAt.own hown7).base_le hb6
          obtain ⟨f7, rfl, hf7b⟩ := hf7.fv
          rw [← hf7b] at hf7w
          have hn7 := Lib.hid hf7w.new
          clear hf7w
          rw [← hf7b] at hf7
          have hb7' : Below w6.heap.size w6 w7 := ((Below.refl _ _).drew).trans (hb7.mono (Nat.le_refl _))
          have h7 := h6.below hb7'
          have hM7 := h7.maps
          have hnb7 := (hb7'.cell (p := ⟨w.heap.size, 0, none⟩) (World.lt_of_cell hnb6)).trans hnb6
          dsimp only
          refine hK.out _ _ ⟨h7.c3, hnb7⟩ ?_
          clear hK K'
          try simp only [Act.put, List.setIfInBounds_toArray, List.set_cons_zero, List.set_cons_succ]
          refine wpTree_nil hOps (by kernel_rfl) ?_
          refine hT.out _ _ ?_
          simp only [List.drop_succ_cons, List.drop_zero]
          clear hOps hT hTok hHeld
          refine wpList_updateL rfl _ _ _ _ rfl keyN hM7 Try.underlying52 hml (x := s) hs rfl rfl ?_
          intro w8 hM8 hc8
          have hM8' : MapL Try.prog 9 klT wfT w8 x.md (entF ((s, f7) :: withoutL x.safe s)) := by rw [← Dsk.set_ent]; exact hM8
          have h8 := h7.turnSafe hM8' hc8 (Dsk.fil_with h7.fils hf7 s) (Dsk.perm_with h7.perms s f7)
          have hst : DStep w base b x rs.2 w8 := by
            rw [hrq.out]
            rw [hf7b] at h8
            exact DStep.then (M1 := M) hc6 hds6 h8 (((Chg.of_below hb7').mono (fun k h1 h2 => by omega)).then_new hc8 (fun i hi e => .inr (.inr (.inl e)))) (fun k hk => .inl hk) (NewF.sync (fun g h => (BlkL.cons h).elim (fun h => .inr (hn7.out g h)) (fun h => .inl (BlkL.without h))) (fun c hc => (List.mem_filter.1 hc).1))
          have hrs1 : rs.1 = 0 := by rw [hrq.out]
          clear h8 h7 h6 hM8 hM8' hM7 hc8 hb7' hcl hf6 hf7 hown7 hb7 c3 hnb6 hnb7 hc6 hds6 hml
          try simp only [Act.put]
          go_wp2_with fail
          go_ret
          exact ⟨by first | rfl | (rw [hrs1]; rfl), hst⟩
        | false =>
          go_upto_region 12 with fail
          refine wp_region_tree (fun wx => wx.cell? ⟨b, 3, none⟩ = some (.map (some x.md)) ∧ wx.cell? ⟨w.heap.size, 0, none⟩ = some (.string s)) 5 6 (by kernel_rfl) rfl (by kernel_rfl) (fun d _ _ _ _ h => by cases d <;> exact h) (⟨c3, hnb6⟩) (fun opz T hOps hT hTok hHeld => ?_)
          (refine wpTree_q 0 hTok hOps (by kernel_rfl) rfl rfl ⟨?_, ?_, ?_⟩; rotate_left; (focus (intro wx hSx; (try dsimp only at hSx); go_simp; (try with_reducible rfl))); (simp only [Act.put, List.setIfInBounds_toArray, List.set_cons_zero, List.set_cons_succ]))
          (refine wpTree_q 1 hTok hOps (by kernel_rfl) rfl rfl ⟨?_, ?_, ?_⟩; rotate_left; (focus (intro wx hSx; (try dsimp only at hSx); go_simp; (try with_reducible rfl))); (simp only [Act.put, List.setIfInBounds_toArray, List.set_cons_zero, List.set_cons_succ]))
          (refine wpTree_q 2 hTok hOps (by kernel_rfl) rfl rfl ⟨?_, ?_, ?_⟩; rotate_left; (focus (intro wx hSx; (try dsimp only at hSx); go_simp; (try with_reducible rfl))); (simp only [Act.put, List.setIfInBounds_toArray, List.set_cons_zero, List.set_cons_succ]))
          (refine wpTree_q 3 hTok hOps (by kernel_rfl) rfl rfl ⟨?_, ?_, ?_⟩; rotate_left; (focus (intro wx hSx; (try dsimp only at hSx); go_simp; (try with_reducible rfl))); (simp only [Act.put, List.setIfInBounds_toArray, List.set_cons_zero, List.set_cons_succ]))
          (refine wpTree_q 4 hTok hOps (by kernel_rfl) rfl rfl ⟨?_, ?_, ?_⟩; rotate_left; (focus (intro wx hSx; (try dsimp only at hSx); go_simp; (try with_reducible rfl))); (simp only [Act.put, List.setIfInBounds_toArray, List.set_cons_zero, List.set_cons_succ]))
          refine wpTree_nil hOps (by kernel_rfl) ?_
          refine hT.out _ _ ?_
          simp only [List.drop_succ_cons, List.drop_zero]
          clear hOps hT hTok hHeld
          have hM7 := (h6.below ((Below.refl _ _).drew)).maps
          refine wpList_deleteL rfl _ _ _ rfl keyN hM7 Try.underlying52 (x := s) hs rfl rfl ?_
          intro w8 hM8 hc8
          have hb7' : Below w6.heap.size w6 w6.drew := (Below.refl _ _).drew
          have h7 := h6.below hb7'
          have hM8' : MapL Try.prog 9 klT wfT w8 x.md (entF (withoutL x.safe s)) := by rw [← del_ent]; exact hM8
          have h8 := h7.turnSafe hM8' hc8 (Dsk.fil_without h7.fils s) (Dsk.perm_without h7.perms s)
          have hst : DStep w base b x rs.2 w8 := by
            rw [hrq.out]
            exact DStep.then (M1 := M) hc6 hds6 h8 (((Chg.of_below hb7').mono (fun k h1 h2 => by omega)).then_new hc8 (fun i hi e => .inr (.inr (.inl e)))) (fun k hk => .inl hk) (NewF.sync (fun g h => .inl (BlkL.without h)) (fun c hc => (List.mem_filter.1 hc).1))
          have hrs1 : rs.1 = 0 := by rw [hrq.out]
          clear h8 h7 h6 hM8 hM8' hM7 hc8 hb7' c3 hnb6 hc6 hds6 hml
          try simp only [Act.put]
          go_wp2_with fail
          go_ret
          exact ⟨by first | rfl | (rw [hrs1]; rfl), hst⟩
  · have hwm : syncM M s = (er, M) := by unfold syncM; rw [← her, if_pos he]
    rw [hwm]
    have d1 : ((er : Int) != 0) = true := by simp; omega
    have hgo : ∀ w1, Below w.heap.size w w1 → DStep w base b x M w1 := fun w1 h1 => DStep.same h h1
    clear hwm he her h hok
    go_enter Try.func26, Try.ntmps26
    go_wp2_with fail
    refine (hrd _ hba).mono ?_
    rintro e w1 ⟨rfl, hb1⟩
    dsimp only
    go_wp2_with fail
    go_ret
    exact ⟨rfl, hgo _ (hba.trans (hb1.mono hba.size))⟩
end Go.Proofs.Ytjgiphoolfhlmaa
