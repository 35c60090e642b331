/- Disk: a twin, a copy; two pairs of disks beside each other. -/
import Derived.Test.YtjhbeahkojippaaD17
namespace Go.Proofs.Ytjhbeahkojippaa
open Go.RowKit Go.Maps
attribute [local go_sem] Oper.semAt_some
set_option linter.unusedVariables false
set_option linter.unusedSimpArgs false

theorem RStep.after {w w0 w1 : World} {base mb : Nat} {r : RX} {M' : DM} (h0 : Below w.heap.size w w0) (h : RStep w0 base mb r M' w1) : RStep w base mb r M' w1 := by
  obtain ⟨r', h1, h2, h3⟩ := h
  have := h0.size
  refine ⟨r', h1, ((Chg.of_below h0).mono (fun k h1 h2 => by omega)).trans h2, fun k hk => ?_⟩
  rcases h3 k hk with h | h
  · exact .inl h
  · exact .inr (by omega)

set_option maxRecDepth 100000 in
set_option maxHeartbeats 4000000 in
theorem twin_any {base mb : Nat} {r : RX} {M : DM} {N : Nat} (s : SM) (da : Option Addr) (dc : Nat) (pa : Option Addr) (pc : Nat) (w : World) (hs : s.name.size ≤ maxLen) (hR : Rf w base mb r M) (hok2 : OkM N M) (hN : N ≤ 1000000) (hb : base ≤ w.heap.size)
    (hd : SlA base 1 EU w da dc s.data) (hdz : s.data.length ≤ 140737488355328) (hpk : SlA base 1 (RI .i64) w pa pc s.picks) :
    Calls Try.prog 28 #[.pointer (some ⟨mb, 0, none⟩), .agg #[.int .i64 s.kind, .string s.name, .int .i64 s.pos, .slice da s.data.length dc, .slice pa s.picks.length pc]] w fun e w' =>
      (∃ v, e = .returned v) ∧ RStep w base mb r (stepM s M) w' := by
  obtain ⟨kd, nm, ps, db, picks⟩ := s
  dsimp only at hs hd hdz hpk ⊢
  obtain ⟨dl, hdl⟩ : ∃ dl, dl = db.length := ⟨_, rfl⟩
  obtain ⟨pl, hpl⟩ : ∃ pl, pl = picks.length := ⟨_, rfl⟩
  obtain ⟨w5, hw5⟩ : ∃ w5, w5 = w.alloc (.cells #[.int .i64 kd, .string nm, .int .i64 ps, .slice da db.length dc, .slice pa picks.length pc] 47) := ⟨_, rfl⟩
  have hbox : Below w.heap.size w w5 := by rw [hw5]; exact belowAlloc _ _
  have hbx : Blk w5 w.heap.size #[.int .i64 kd, .string nm, .int .i64 ps, .slice da dl dc, .slice pa pl pc] 47 := by rw [hw5, hdl, hpl]; exact Blk.new _ _ _
  have x0 := hbx.cellAt (i := 0) (v := .int .i64 kd) rfl
  have x1 := hbx.cellAt (i := 1) (v := .string nm) rfl
  have x2 := hbx.cellAt (i := 2) (v := .int .i64 ps) rfl
  have x3 := hbx.cellAt (i := 3) (v := .slice da dl dc) rfl
  have x4 := hbx.cellAt (i := 4) (v := .slice pa pl pc) rfl
  obtain ⟨xb, hxb⟩ : ∃ xb, xb = w.heap.size := ⟨_, rfl⟩
  have h1 := hR.below hbox
  have h2 := Nat.le_trans hb hbox.size
  have h3 : SlA base 1 EU w5 da dc db := hd.imp (hbox.mono hb) (Nat.le_refl _) (fun cs x _ h => h)
  have h4 : SlA base 1 (RI .i64) w5 pa pc picks := hpk.imp (hbox.mono hb) (Nat.le_refl _) (fun cs x _ h => h)
  have hall : Hid (∀ M' w', RStep w5 base mb r M' w' → RStep w base mb r M' w') := Lib.hid (fun M' w' h => h.after hbox)
  have hR5 : Hid (Rf w5 base mb r M) := Lib.hid h1
  rw [← hxb] at x0 x1 x2 x3 x4 hbx
  replace hdl := Lib.hid hdl
  replace hpl := Lib.hid hpl
  replace hw5 := Lib.hid hw5
  replace hxb := Lib.hid hxb
  clear hbox hbx hd hpk hR
  go_enter Try.func28, Try.ntmps28
  go_upto_region 1 with fail
  rw [← hw5.out, ← hxb.out]
  clear hw5 hxb
  by_cases z0 : kd = 0
  · subst z0
    have hcR := rwrite_any nm ps da dc db w5 hs h1 hok2 (by omega) h2 h3 hdz
    rw [← hdl.out] at hcR
    replace hcR := Lib.hid hcR
    clear h1 h2 h3 h4 hR5
    go_wp2_with fail
    refine hcR.out.mono ?_
    rintro e w4 ⟨rfl, hst2⟩
    have hfin := hall.out _ _ hst2
    replace hfin := Lib.hid hfin
    clear hst2 hcR hall
    dsimp only
    go_wp2_with fail
    go_end0
    exact ⟨⟨_, rfl⟩, hfin.out⟩
  have e0 : ((kd : Int) == 0) = false := by simp; omega
  by_cases z1 : kd = 1
  · subst z1
    have hcR := rcut_any nm ps w5 hs h1 hok2 (by omega) h2
    replace hcR := Lib.hid hcR
    clear h1 h2 h3 h4 hR5
    go_wp2_with fail
    refine hcR.out.mono ?_
    rintro e w4 ⟨rfl, hst2⟩
    have hfin := hall.out _ _ hst2
    replace hfin := Lib.hid hfin
    clear hst2 hcR hall
    dsimp only
    go_wp2_with fail
    go_end0
    exact ⟨⟨_, rfl⟩, hfin.out⟩
  have e1 : ((kd : Int) == 1) = false := by simp; omega
  by_cases z2 : kd = 2
  · subst z2
    have hcR := rremove_any nm w5 hs h1 hok2 (by omega) h2
    replace hcR := Lib.hid hcR
    clear h1 h2 h3 h4 hR5
    go_wp2_with fail
    refine hcR.out.mono ?_
    rintro e w4 ⟨rfl, hst2⟩
    have hfin := hall.out _ _ hst2
    replace hfin := Lib.hid hfin
    clear hst2 hcR hall
    dsimp only
    go_wp2_with fail
    go_end0
    exact ⟨⟨_, rfl⟩, hfin.out⟩
  have e2 : ((kd : Int) == 2) = false := by simp; omega
  by_cases z3 : kd = 3
  · subst z3
    have hcR := rsync_any nm w5 hs h1 hok2 (by omega) h2
    replace hcR := Lib.hid hcR
    clear h1 h2 h3 h4 hR5
    go_wp2_with fail
    refine hcR.out.mono ?_
    rintro e w4 ⟨rfl, hst2⟩
    have hfin := hall.out _ _ hst2
    replace hfin := Lib.hid hfin
    clear hst2 hcR hall
    dsimp only
    go_wp2_with fail
    go_end0
    exact ⟨⟨_, rfl⟩, hfin.out⟩
  have e3 : ((kd : Int) == 3) = false := by simp; omega
  by_cases z4 : kd = 4
  · subst z4
    have hcR := rcrash_any picks pa pc w5 h1 hok2 (by omega) h2 h4
    rw [← hpl.out] at hcR
    replace hcR := Lib.hid hcR
    clear h1 h2 h3 h4 hR5
    go_wp2_with fail
    refine hcR.out.mono ?_
    rintro e w4 ⟨⟨v2, rfl⟩, hst2⟩
    have hfin := hall.out _ _ hst2
    replace hfin := Lib.hid hfin
    clear hst2 hcR hall
    dsimp only
    go_wp2_with fail
    go_end0
    exact ⟨⟨_, rfl⟩, hfin.out⟩
  have e4 : ((kd : Int) == 4) = false := by simp; omega
  by_cases z5 : kd = 5
  · subst z5
    have hm1 : w5.cell? ⟨mb, 1, none⟩ = some (.bool M.fails) := h1.blk.cellAt rfl
    have hf1 := h1.blk.frozen 1
    have hml := h1.blk.lt
    have hst2 : RStep w5 base mb r (failM M (ps != 0)) (w5.setCell ⟨mb, 1, none⟩ (.bool (ps != 0))) := ⟨r, h1.setFails _, (Chg.refl _ _).setCell _ _ (fun _ => .inl rfl), fun k hk => .inl hk⟩
    have hfin := hall.out _ _ hst2
    replace hfin := Lib.hid hfin
    clear h1 h2 h3 h4 hR5 hst2 hall
    go_wp2_with fail
    go_end0
    exact ⟨⟨_, rfl⟩, hfin.out⟩
  have e5 : ((kd : Int) == 5) = false := by simp; omega
  by_cases z6 : kd = 6
  · subst z6
    by_cases hr : ps < 0 ∨ 1073741824 < ps
    · have hl2 : limitM M ps = (1, M) := by unfold limitM; rw [if_pos hr]
      have hst2 : RStep w5 base mb r (limitM M ps).2 w5 := by rw [hl2]; exact RStep.same h1 (Below.refl _ _)
      have hfin := hall.out _ _ hst2
      replace hfin := Lib.hid hfin
      clear h1 h2 h3 h4 hR5 hst2 hall hl2
      rcases hr with hr | hr
      · have d1 : decide (0 ≤ ps) = false := by simp; omega
        go_wp2_with fail
        go_end0
        exact ⟨⟨_, rfl⟩, hfin.out⟩
      · have d1 : decide (0 ≤ ps) = true := by simp; omega
        have d2 : decide (ps ≤ 1073741824) = false := by simp; omega
        go_wp2_with fail
        go_end0
        exact ⟨⟨_, rfl⟩, hfin.out⟩
    · have hl2 : limitM M ps = (0, { M with room := ps }) := by unfold limitM; rw [if_neg hr]
      have hm0 : w5.cell? ⟨mb, 0, none⟩ = some (.int .i64 M.room) := h1.blk.cellAt rfl
      have hf0 := h1.blk.frozen 0
      have hml := h1.blk.lt
      have hst2 : RStep w5 base mb r (limitM M ps).2 (w5.setCell ⟨mb, 0, none⟩ (.int .i64 ps)) := by rw [hl2]; exact ⟨r, h1.setRoom _, (Chg.refl _ _).setCell _ _ (fun _ => .inl rfl), fun k hk => .inl hk⟩
      have hfin := hall.out _ _ hst2
      replace hfin := Lib.hid hfin
      clear h1 h2 h3 h4 hR5 hst2 hall hl2
      have d1 : decide (0 ≤ ps) = true := by simp; omega
      have d2 : decide (ps ≤ 1073741824) = true := by simp; omega
      clear hr
      go_wp2_with fail
      go_end0
      exact ⟨⟨_, rfl⟩, hfin.out⟩
  have e6 : ((kd : Int) == 6) = false := by simp; omega
  have hfin : RStep w base mb r (stepM ⟨kd, nm, ps, db, picks⟩ M) w5 := by
    unfold stepM stepN
    dsimp only
    simp only [if_neg z0, if_neg z1, if_neg z2, if_neg z3, if_neg z4, if_neg z5, if_neg z6]
    exact hall.out _ _ (RStep.same h1 (Below.refl _ _))
  replace hfin := Lib.hid hfin
  clear h1 h2 h3 h4 hR5 hall
  go_wp2_with fail
  go_end0
  exact ⟨⟨_, rfl⟩, hfin.out⟩

set_option maxRecDepth 100000 in
set_option maxHeartbeats 4000000 in
theorem copy_any {base b : Nat} {x : DX} {M : DM} {N : Nat} (w : World) (h : Dsk w base b x M) (hok : OkM N M) (hN : N ≤ 1000000) (hb : base ≤ w.heap.size) :
    Calls Try.prog 25 #[.pointer (some ⟨b, 0, none⟩)] w fun e w' => ∃ cb x2, e = .returned (.pointer (some ⟨cb, 0, none⟩)) ∧ Dsk w' base cb x2 M ∧ (∀ k, DS x2 cb k → w.heap.size ≤ k) ∧ Below w.heap.size w w' := by
  have hm1 := fun wy (hy : Below w.heap.size w wy) => mclone_any x.mn (entF x.now) wy (h.below hy).mapn
  have hm2 := fun wy (hy : Below w.heap.size w wy) => mclone_any x.md (entF x.safe) wy (h.below hy).maps
  have hlc := Nat.le_trans (chsN h hok) hN
  have hc3 := fun wy (hy : Below w.heap.size w wy) => cloneC_any x.chs base x.cv wy (h.below hy).row hlc
  have b0 := h.c0
  have b1 := h.c1
  have b2 := h.c2
  have b3 := h.c3
  have b4 := h.c4
  have hbl := h.blk.lt
  have hcell : Hid (∀ wy, Below w.heap.size w wy → wy.cell? ⟨b, 0, none⟩ = some (.int .i64 M.room) ∧ wy.cell? ⟨b, 1, none⟩ = some (.bool M.fails) ∧ wy.cell? ⟨b, 2, none⟩ = some (.map (some x.mn)) ∧ wy.cell? ⟨b, 3, none⟩ = some (.map (some x.md)) ∧ wy.cell? ⟨b, 4, none⟩ = some x.cv) := Lib.hid (fun wy hy => ⟨(h.below hy).c0, (h.below hy).c1, (h.below hy).c2, (h.below hy).c3, (h.below hy).c4⟩)
  replace hm1 := Lib.hid hm1
  replace hm2 := Lib.hid hm2
  replace hc3 := Lib.hid hc3
  have hD : Hid (Dsk w base b x M) := Lib.hid h
  clear h
  go_enter Try.func25, Try.ntmps25
  go_upto_region 3 with fail
  refine wp_region_tree (fun wx => wx.cell? ⟨b, 0, none⟩ = some (.int .i64 M.room) ∧ wx.cell? ⟨b, 1, none⟩ = some (.bool M.fails) ∧ wx.cell? ⟨b, 2, none⟩ = some (.map (some x.mn)) ∧ wx.cell? ⟨b, 3, none⟩ = some (.map (some x.md)) ∧ wx.cell? ⟨b, 4, none⟩ = some x.cv) 25 26 (by kernel_rfl) rfl (by kernel_rfl) (fun d _ _ _ _ h => by cases d <;> exact h) (⟨b0, b1, b2, b3, b4⟩) (fun opz T hOps hT hTok hHeld => ?_)
  (refine wpTree_q 0 hTok hOps (by kernel_rfl) rfl rfl ⟨?_, ?_, ?_⟩; rotate_left; (focus (intro wx hSx; (try dsimp only at hSx); go_simp; (try with_reducible rfl))); (simp only [Act.put, List.setIfInBounds_toArray, List.set_cons_zero, List.set_cons_succ]))
  (refine wpTree_q 1 hTok hOps (by kernel_rfl) rfl rfl ⟨?_, ?_, ?_⟩; rotate_left; (focus (intro wx hSx; (try dsimp only at hSx); go_simp; (try with_reducible rfl))); (simp only [Act.put, List.setIfInBounds_toArray, List.set_cons_zero, List.set_cons_succ]))
  (refine wpTree_q 2 hTok hOps (by kernel_rfl) rfl rfl ⟨?_, ?_, ?_⟩; rotate_left; (focus (intro wx hSx; (try dsimp only at hSx); go_simp; (try with_reducible rfl))); (simp only [Act.put, List.setIfInBounds_toArray, List.set_cons_zero, List.set_cons_succ]))
  (refine wpTree_q 3 hTok hOps (by kernel_rfl) rfl rfl ⟨?_, ?_, ?_⟩; rotate_left; (focus (intro wx hSx; (try dsimp only at hSx); go_simp; (try with_reducible rfl))); (simp only [Act.put, List.setIfInBounds_toArray, List.set_cons_zero, List.set_cons_succ]))
  (refine wpTree_q 4 hTok hOps (by kernel_rfl) rfl rfl ⟨?_, ?_, ?_⟩; rotate_left; (focus (intro wx hSx; (try dsimp only at hSx); go_simp; (try with_reducible rfl))); (simp only [Act.put, List.setIfInBounds_toArray, List.set_cons_zero, List.set_cons_succ]))
  (refine wpTree_q 5 hTok hOps (by kernel_rfl) rfl rfl ⟨?_, ?_, ?_⟩; rotate_left; (focus (intro wx hSx; (try dsimp only at hSx); go_simp; (try with_reducible rfl))); (simp only [Act.put, List.setIfInBounds_toArray, List.set_cons_zero, List.set_cons_succ]))
  (refine wpTree_q 6 hTok hOps (by kernel_rfl) rfl rfl ⟨?_, ?_, ?_⟩; rotate_left; (focus (intro wx hSx; (try dsimp only at hSx); go_simp; (try with_reducible rfl))); (simp only [Act.put, List.setIfInBounds_toArray, List.set_cons_zero, List.set_cons_succ]))
  (refine wpTree_q 7 hTok hOps (by kernel_rfl) rfl rfl ⟨?_, ?_, ?_⟩; rotate_left; (focus (intro wx hSx; (try dsimp only at hSx); go_simp; (try with_reducible rfl))); (simp only [Act.put, List.setIfInBounds_toArray, List.set_cons_zero, List.set_cons_succ]))
  (refine wpTree_q 8 hTok hOps (by kernel_rfl) rfl rfl ⟨?_, ?_, ?_⟩; rotate_left; (focus (intro wx hSx; (try dsimp only at hSx); go_simp; (try with_reducible rfl))); (simp only [Act.put, List.setIfInBounds_toArray, List.set_cons_zero, List.set_cons_succ]))
  (refine wpTree_q 9 hTok hOps (by kernel_rfl) rfl rfl ⟨?_, ?_, ?_⟩; rotate_left; (focus (intro wx hSx; (try dsimp only at hSx); go_simp; (try with_reducible rfl))); (simp only [Act.put, List.setIfInBounds_toArray, List.set_cons_zero, List.set_cons_succ]))
  (refine wpTree_q 10 hTok hOps (by kernel_rfl) rfl rfl ⟨?_, ?_, ?_⟩; rotate_left; (focus (intro wx hSx; (try dsimp only at hSx); go_simp; (try with_reducible rfl))); (simp only [Act.put, List.setIfInBounds_toArray, List.set_cons_zero, List.set_cons_succ]))
  (refine wpTree_q 11 hTok hOps (by kernel_rfl) rfl rfl ⟨?_, ?_, ?_⟩; rotate_left; (focus (intro wx hSx; (try dsimp only at hSx); go_simp; (try with_reducible rfl))); (simp only [Act.put, List.setIfInBounds_toArray, List.set_cons_zero, List.set_cons_succ]))
  (refine wpTree_q 13 hTok hOps (by kernel_rfl) rfl rfl ⟨?_, ?_, ?_⟩; rotate_left; (focus (intro wx hSx; (try dsimp only at hSx); go_simp; (try with_reducible rfl))); (simp only [Act.put, List.setIfInBounds_toArray, List.set_cons_zero, List.set_cons_succ]))
  (refine wpTree_q 14 hTok hOps (by kernel_rfl) rfl rfl ⟨?_, ?_, ?_⟩; rotate_left; (focus (intro wx hSx; (try dsimp only at hSx); go_simp; (try with_reducible rfl))); (simp only [Act.put, List.setIfInBounds_toArray, List.set_cons_zero, List.set_cons_succ]))
  (refine wpTree_q 15 hTok hOps (by kernel_rfl) rfl rfl ⟨?_, ?_, ?_⟩; rotate_left; (focus (intro wx hSx; (try dsimp only at hSx); go_simp; (try with_reducible rfl))); (simp only [Act.put, List.setIfInBounds_toArray, List.set_cons_zero, List.set_cons_succ]))
  (refine wpTree_q 16 hTok hOps (by kernel_rfl) rfl rfl ⟨?_, ?_, ?_⟩; rotate_left; (focus (intro wx hSx; (try dsimp only at hSx); go_simp; (try with_reducible rfl))); (simp only [Act.put, List.setIfInBounds_toArray, List.set_cons_zero, List.set_cons_succ]))
  (refine wpTree_q 18 hTok hOps (by kernel_rfl) rfl rfl ⟨?_, ?_, ?_⟩; rotate_left; (focus (intro wx hSx; (try dsimp only at hSx); go_simp; (try with_reducible rfl))); (simp only [Act.put, List.setIfInBounds_toArray, List.set_cons_zero, List.set_cons_succ]))
  (refine wpTree_q 19 hTok hOps (by kernel_rfl) rfl rfl ⟨?_, ?_, ?_⟩; rotate_left; (focus (intro wx hSx; (try dsimp only at hSx); go_simp; (try with_reducible rfl))); (simp only [Act.put, List.setIfInBounds_toArray, List.set_cons_zero, List.set_cons_succ]))
  (refine wpTree_q 20 hTok hOps (by kernel_rfl) rfl rfl ⟨?_, ?_, ?_⟩; rotate_left; (focus (intro wx hSx; (try dsimp only at hSx); go_simp; (try with_reducible rfl))); (simp only [Act.put, List.setIfInBounds_toArray, List.set_cons_zero, List.set_cons_succ]))
  (refine wpTree_q 21 hTok hOps (by kernel_rfl) rfl rfl ⟨?_, ?_, ?_⟩; rotate_left; (focus (intro wx hSx; (try dsimp only at hSx); go_simp; (try with_reducible rfl))); (simp only [Act.put, List.setIfInBounds_toArray, List.set_cons_zero, List.set_cons_succ]))
  refine wpTree_1 12 hOps (by kernel_rfl) (by decide) rfl (fun K' hK => ?_)
  go_simp
  refine (hm1.out _ (Below.refl _ _).drew).mono ?_
  rintro e w1 ⟨rfl, hM1, hb1d⟩
  have hb1 : Below w.heap.size w w1 := ((Below.refl _ _).drew).trans (hb1d.mono (Nat.le_refl _))
  dsimp only
  refine hK.out _ _ (hcell.out _ hb1) ?_
  clear hK K'
  try simp only [Act.put, List.setIfInBounds_toArray, List.set_cons_zero, List.set_cons_succ]
  refine wpTree_1 17 hOps (by kernel_rfl) (by decide) rfl (fun K' hK => ?_)
  go_simp
  refine (hm2.out _ hb1).mono ?_
  rintro e w2 ⟨rfl, hM2, hb2d⟩
  have hb2 : Below w.heap.size w w2 := hb1.trans (hb2d.mono hb1.size)
  dsimp only
  refine hK.out _ _ (hcell.out _ hb2) ?_
  clear hK K'
  try simp only [Act.put, List.setIfInBounds_toArray, List.set_cons_zero, List.set_cons_succ]
  refine wpTree_1 22 hOps (by kernel_rfl) (by decide) rfl (fun K' hK => ?_)
  go_simp
  refine (hc3.out _ hb2).mono ?_
  rintro e w3 ⟨v3, rfl, hO3, hb3d⟩
  obtain ⟨a3, k3, hv3, _, _, _⟩ := hO3.slice
  obtain ⟨n3, hn3⟩ : ∃ n3, n3 = x.chs.length := ⟨_, rfl⟩
  rw [← hn3] at hv3
  subst hv3
  replace hn3 := Lib.hid hn3
  have hb3 : Below w.heap.size w w3 := hb2.trans (hb3d.mono hb2.size)
  dsimp only
  refine hK.out _ _ (hcell.out _ hb3) ?_
  clear hK K'
  try simp only [Act.put, List.setIfInBounds_toArray, List.set_cons_zero, List.set_cons_succ]
  (refine wpTree_q 23 hTok hOps (by kernel_rfl) rfl rfl ⟨?_, ?_, ?_⟩; rotate_left; (focus (intro wx hSx; (try dsimp only at hSx); go_simp; (try with_reducible rfl))); (simp only [Act.put, List.setIfInBounds_toArray, List.set_cons_zero, List.set_cons_succ]))
  obtain ⟨m1, hm1e⟩ : ∃ m1, m1 = w.drew.heap.size := ⟨_, rfl⟩
  obtain ⟨m2, hm2e⟩ : ∃ m2, m2 = w1.heap.size := ⟨_, rfl⟩
  rw [← hm1e] at hM1
  rw [← hm2e] at hM2
  have h1e : w.heap.size ≤ m1 := by rw [hm1e]; exact Nat.le_refl _
  have h2e : w.heap.size ≤ m2 := by rw [hm2e]; exact hb1.size
  have h12 : m1 < m2 := by rw [hm2e]; exact hM1.lt
  have hM1' := (hM1.below hb2d hM1.lt).below hb3d (Nat.lt_of_lt_of_le hM1.lt hb2d.size)
  have hM2' := hM2.below hb3d hM2.lt
  have hD3 := hD.out.below hb3
  have hb4 : Below w.heap.size w (w3.alloc (.cells #[.int .i64 M.room, .bool M.fails, .map (some m1), .map (some m2), (.slice a3 n3 k3)] 64)) := hb3.alloc hb3.size _
  have hbl4 : Below w3.heap.size w3 (w3.alloc (.cells #[.int .i64 M.room, .bool M.fails, .map (some m1), .map (some m2), (.slice a3 n3 k3)] 64)) := belowAlloc _ _
  have hD4 : Dsk (w3.alloc (.cells #[.int .i64 M.room, .bool M.fails, .map (some m1), .map (some m2), (.slice a3 n3 k3)] 64)) base w3.heap.size { x with mn := m1, md := m2, cv := .slice a3 n3 k3 } M :=
    ⟨Blk.new _ _ _, hM1'.below hbl4 hM1'.lt, hM2'.below hbl4 hM2'.lt, (hO3.base_le (Nat.le_trans hb hb2.size)).alloc _, fun p hp => (hD3.filn p hp).below hbl4 (Nat.le_refl _), fun p hp => (hD3.fils p hp).below hbl4 (Nat.le_refl _), fun c hc => (hD3.filc c hc).below hbl4 (Nat.le_refl _), hD3.permn, hD3.perms, hD3.chq, by dsimp only; omega, Nat.le_trans hb hb3.size, Nat.le_trans hb h1e, Nat.le_trans hb h2e⟩
  have hnew : ∀ k, DS { x with mn := m1, md := m2, cv := .slice a3 n3 k3 } w3.heap.size k → w.heap.size ≤ k := by
    rintro k (rfl | rfl | rfl | hk)
    · exact hb3.size
    · exact h1e
    · exact h2e
    · have := (hO3.lt k hk).1
      exact Nat.le_trans hb2.size this
  have hcc := hcell.out _ hb4
  rw [hm1e] at hcc hD4 hb4 hnew
  rw [hm2e] at hcc hD4 hb4 hnew
  replace hD4 := Lib.hid hD4
  replace hnew := Lib.hid hnew
  clear hM1 hM2 hM1' hM2' hD3 hO3 hbl4 hm1e hm2e h1e h2e h12 hD hm1 hm2 hc3
  refine wpTree_1 24 hOps (by kernel_rfl) (by decide) rfl (fun K' hK => ?_)
  go_simp
  refine hK.out _ _ hcc ?_
  clear hK K'
  try simp only [Act.put, List.setIfInBounds_toArray, List.set_cons_zero, List.set_cons_succ]
  refine wpTree_nil hOps (by kernel_rfl) ?_
  refine hT.out _ _ ?_
  simp only [List.drop_succ_cons, List.drop_zero]
  clear hOps hT hTok hHeld
  go_wp2_with fail
  go_ret
  exact ⟨_, _, rfl, hD4.out, hnew.out, hb4⟩
end Go.Proofs.Ytjhbeahkojippaa
