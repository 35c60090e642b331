/- Disk: the document's disk: Cut. -/
import Derived.Test.YtjhbeahkojippaaD9
namespace Go.Proofs.Ytjhbeahkojippaa
open Go.RowKit Go.Maps
attribute [local go_sem] Oper.semAt_some
set_option linter.unusedVariables false
set_option linter.unusedSimpArgs false

theorem FileAt.front {w : World} {base : Nat} {f : FV} (h : FileAt w base f.v f.bs) (k : Nat) (hk : k ≤ f.bs.length) : FileAt w base (.slice f.ao k f.cap) (f.bs.take k) := by
  have hl : (f.bs.take k).length = k := by rw [List.length_take]; omega
  rcases h with ⟨h1, ao, h2⟩ | ⟨g, cap, cells, h1, h2, h3, h4, h5, h6⟩
  · unfold FV.v at h2
    simp only [Value.slice.injEq] at h2
    rw [h1] at hk
    have hk0 : k = 0 := by simpa using hk
    subst hk0
    exact .inl ⟨by simp, f.ao, by rw [h2.2.2]⟩
  · unfold FV.v at h1
    simp only [Value.slice.injEq] at h1
    refine .inr ⟨g, f.cap, cells, by rw [hl, h1.1], h2, by rw [hl]; omega, by omega, h5, ?_⟩
    rw [hl]
    have h7 : (cells.toList.take f.bs.length).take k = (cellsU f.bs).take k := by rw [h6]
    rw [List.take_take, Nat.min_eq_left hk] at h7
    rw [h7]
    unfold cellsU
    rw [List.map_take]

set_option maxRecDepth 100000 in
set_option maxHeartbeats 4000000 in
theorem rcut_any {base mb : Nat} {r : RX} {M : DM} {N : Nat} (s : ByteArray) (n : Int) (w : World) (hs : s.size ≤ maxLen) (h : Rf w base mb r M) (hok : OkM N M) (hN : N ≤ 1000000) (hb : base ≤ w.heap.size) :
    Calls Try.prog 40 #[.pointer (some ⟨mb, 0, none⟩), .string s, .int .i64 n] w fun e w' => e = .returned (.int .i64 (cutM M s n).1) ∧ RStep w base mb r (cutM M s n).2 w' := by
  have hrd := rready_any mb M s n w hs (h.blk.cellAt rfl)
  obtain ⟨er, her⟩ : ∃ er, er = readyM M s n := ⟨_, rfl⟩
  rw [← her] at hrd
  have hgo0 := RStep.same h (Below.refl w.heap.size w)
  by_cases he : er = 0
  · subst he
    obtain ⟨hf, hrt, hn0⟩ := ready0 her.symm
    obtain ⟨nn, rfl⟩ : ∃ nn : Nat, n = nn := ⟨n.toNat, by omega⟩
    obtain ⟨ic, hic, hc0, hc1, hc2⟩ := partsRc
    have hge := rget_any s base r.nv r.now w h.now (Nat.le_trans (h.len_now hok) hN)
    have hgn := h.get_now s
    have c2 : w.cell? ⟨mb, 2, none⟩ = some r.nv := h.blk.cellAt rfl
    obtain ⟨na, nc, hnv, _, _, _⟩ := h.now.slice
    obtain ⟨nl, hnl⟩ : ∃ nl, nl = r.now.length := ⟨_, rfl⟩
    rw [hnv, ← hnl] at c2 hge
    have hslot : r.nv = .slice na nl nc := by rw [hnv, hnl]
    replace hnl := Lib.hid hnl
    replace hslot := Lib.hid hslot
    clear hnv
    cases hg : getL r.now s with
    | none =>
      have hwm : cutM M s nn = (7, M) := by unfold cutM; rw [← her, hgn, hg]; simp
      rw [hwm]
      rw [hg] at hge
      have hfv : (fileOf r.now s).v = .slice none 0 0 := by unfold fileOf; rw [hg]; rfl
      rw [hfv] at hge
      simp only [Option.isSome_none] at hge
      clear hwm hg hfv hgn her
      go_enter Try.func40, Try.ntmps40
      go_wp2_with fail
      refine hrd.mono ?_
      rintro e wz ⟨rfl, rfl⟩
      dsimp only
      go_wp2_with fail
      refine hge.mono ?_
      rintro e wz ⟨rfl, rfl⟩
      dsimp only
      go_wp2_with fail
      go_ret
      exact ⟨rfl, hgo0⟩
    | some f =>
      have hfo : fileOf r.now s = f := by unfold fileOf; rw [hg]; rfl
      have hfa : FileAt w base f.v f.bs := h.filn _ (getL_mem hg)
      obtain ⟨m, hm⟩ : ∃ m, m = f.bs.length := ⟨_, rfl⟩
      have hfv : f.v = .slice f.ao m f.cap := by rw [hm]; rfl
      rw [hg, hfo, hfv] at hge
      simp only [Option.isSome_some] at hge
      rw [hg] at hgn
      simp only [Option.map_some] at hgn
      have hm30 : m ≤ 1073741824 := by rw [hm]; exact (hok.nown _ (getL_mem hgn)).2
      by_cases hgt : m < nn
      · have hwm : cutM M s nn = (8, M) := by
          unfold cutM; rw [← her, hgn]
          have : ((f.bs.length : Nat) : Int) < (nn : Int) := by omega
          simp [this]
        rw [hwm]
        have d1 : decide ((m : Int) < (nn : Int)) = true := by simp; omega
        have d2 : decide (m < nn) = true := by simp; omega
        replace hm := Lib.hid hm
        clear hwm hg hfv hgn her hfo
        go_enter Try.func40, Try.ntmps40
        go_wp2_with fail
        refine hrd.mono ?_
        rintro e wz ⟨rfl, rfl⟩
        dsimp only
        go_wp2_with fail
        refine hge.mono ?_
        rintro e wz ⟨rfl, rfl⟩
        dsimp only
        go_wp2_with fail
        go_ret
        exact ⟨rfl, hgo0⟩
      · have hwm : cutM M s nn = (0, { M with now := withL M.now s (f.bs.take nn), chs := M.chs ++ [⟨1, s, nn, []⟩] }) := by
          unfold cutM; rw [← her, hgn]
          have : ¬ ((f.bs.length : Nat) : Int) < (nn : Int) := by omega
          simp [this]
        obtain ⟨rs, hrs⟩ : ∃ rs : Nat × DM, rs = cutM M s nn := ⟨_, rfl⟩
        rw [← hrs]
        have hrq : Hid (rs = (0, { M with now := withL M.now s (f.bs.take nn), chs := M.chs ++ [⟨1, s, nn, []⟩] })) := Lib.hid (by rw [hrs, hwm])
        have d1 : decide ((m : Int) < (nn : Int)) = false := by simp; omega
        have d2 : decide (m < nn) = false := by simp; omega
        have hncap : Hid (nn ≤ f.cap) := Lib.hid (by have := (slaf hfa).1; omega)
        have hft := hfa.front nn (by rw [← hm]; omega)
        have htl : (f.bs.take nn).length = nn := by rw [List.length_take]; omega
        obtain ⟨f3, hf3⟩ : ∃ f3 : FV, f3 = ⟨f.ao, f.cap, f.bs.take nn⟩ := ⟨_, rfl⟩
        have hf3v : f3.v = .slice f.ao nn f.cap := by rw [hf3]; unfold FV.v; rw [htl]
        have hf3b : f3.bs = f.bs.take nn := by rw [hf3]
        rw [← hf3v, ← hf3b] at hft
        have hwi := fun (wy : World) (hy : Below w.heap.size w wy) => with_any s f3 base r.nv r.now wy (h.below hy).now (Nat.le_trans (h.len_now hok) hN)
        rw [hslot.out, hf3v] at hwi
        replace hm := Lib.hid hm
        replace hgo0 := Lib.hid hgo0
        replace hwi := Lib.hid hwi
        replace hf3v := Lib.hid hf3v
        replace hf3b := Lib.hid hf3b
        clear hwm hg hgn her hfv hrs hfo hf3 htl
        go_enter Try.func40, Try.ntmps40
        go_wp2_with fail
        refine hrd.mono ?_
        rintro e wz ⟨rfl, rfl⟩
        dsimp only
        go_wp2_with fail
        refine hge.mono ?_
        rintro e wz ⟨rfl, rfl⟩
        clear hrd hge
        dsimp only
        go_upto_region 9 with fail
        refine wp_region_tree (fun wx => wx.cell? ⟨mb, 2, none⟩ = some (.slice na nl nc)) 10 13 (by kernel_rfl) rfl (by kernel_rfl) (fun d _ _ _ _ h => by cases d <;> exact h) (c2) (fun opz T hOps hT hTok hHeld => ?_)
        (refine wpTree_q 0 hTok hOps (by kernel_rfl) rfl rfl ⟨?_, ?_, ?_⟩; rotate_left; (focus (intro wx hSx; (try dsimp only at hSx); go_simp; (try with_reducible rfl))); (simp only [Act.put, List.setIfInBounds_toArray, List.set_cons_zero, List.set_cons_succ]))
        (refine wpTree_q 1 hTok hOps (by kernel_rfl) rfl rfl ⟨?_, ?_, ?_⟩; rotate_left; (focus (intro wx hSx; (try dsimp only at hSx); go_simp; (try with_reducible rfl))); (simp only [Act.put, List.setIfInBounds_toArray, List.set_cons_zero, List.set_cons_succ]))
        (refine wpTree_q 2 hTok hOps (by kernel_rfl) rfl rfl ⟨?_, ?_, ?_⟩; rotate_left; (focus (intro wx hSx; (try dsimp only at hSx); go_simp; (try with_reducible rfl))); (simp only [Act.put, List.setIfInBounds_toArray, List.set_cons_zero, List.set_cons_succ]))
        (refine wpTree_q 3 hTok hOps (by kernel_rfl) rfl rfl ⟨?_, ?_, ?_⟩; rotate_left; (focus (intro wx hSx; (try dsimp only at hSx); go_simp; (try with_reducible rfl))); (simp only [Act.put, List.setIfInBounds_toArray, List.set_cons_zero, List.set_cons_succ]))
        (refine wpTree_q 4 hTok hOps (by kernel_rfl) rfl rfl ⟨?_, ?_, ?_⟩; rotate_left; (focus (intro wx hSx; (try dsimp only at hSx); go_simp; (try with_reducible rfl))); (simp only [Act.put, List.setIfInBounds_toArray, List.set_cons_zero, List.set_cons_succ]))
        (refine wpTree_q 5 hTok hOps (by kernel_rfl) rfl rfl ⟨?_, ?_, ?_⟩; rotate_left; (focus (intro wx hSx; (try dsimp only at hSx); go_simp; (try with_reducible rfl))); (simp only [Act.put, List.setIfInBounds_toArray, List.set_cons_zero, List.set_cons_succ]))
        (refine wpTree_q 6 hTok hOps (by kernel_rfl) rfl rfl ⟨?_, ?_, ?_⟩; rotate_left; (focus (intro wx hSx; (try dsimp only at hSx); go_simp; (try with_reducible rfl))); (simp only [Act.put, List.setIfInBounds_toArray, List.set_cons_zero, List.set_cons_succ]))
        (refine wpTree_q 7 hTok hOps (by kernel_rfl) rfl rfl ⟨?_, ?_, ?_⟩; rotate_left; (focus (intro wx hSx; (try dsimp only at hSx); go_simp; (try with_reducible rfl))); (simp only [Act.put, List.setIfInBounds_toArray, List.set_cons_zero, List.set_cons_succ]))
        (refine wpTree_qg 8 hTok hOps (by kernel_rfl) rfl rfl ⟨?_, ?_, ?_⟩; rotate_left; (focus (intro wx hSx; (try dsimp only at hSx); go_simp; rw [if_pos hncap.out])); (simp only [Act.put, List.setIfInBounds_toArray, List.set_cons_zero, List.set_cons_succ]))
        refine wpTree_1 9 hOps (by kernel_rfl) (by decide) rfl (fun K' hK => ?_)
        go_simp
        refine (hwi.out _ (Below.refl _ _).drew).mono ?_
        rintro e w4 ⟨v4, rfl, hfl4, hb4d⟩
        have hb4 : Below wz.heap.size wz w4 := ((Below.refl _ _).drew).trans (hb4d.mono (Nat.le_refl _))
        have h4 := h.below hb4
        have c24 := (hb4.cell (p := ⟨mb, 2, none⟩) h.blk.lt).trans c2
        have hft4 := hft.below hb4 (Nat.le_refl _)
        have hfil : ∀ p ∈ withL r.now s f3, FileAt w4 base p.2.v p.2.bs := fun p hp => by
          rcases mem_withL hp with rfl | ⟨hp, _⟩
          · exact hft4
          · exact h4.filn p hp
        have h5 := h4.setNow (hfl4.base_le hb) hfil (show mapL FV.bs (withL r.now s f3) = withL M.now s (f.bs.take nn) by rw [withL_map, h.nq, hf3b.out])
        have cf4 := h4.blk.frozen 2
        have hlt4 := h4.blk.lt
        obtain ⟨a4, k4, hv4, _, _, _⟩ := hfl4.slice
        obtain ⟨n4, hn4⟩ : ∃ n4, n4 = (withL r.now s f3).length := ⟨_, rfl⟩
        rw [← hn4] at hv4
        subst hv4
        replace hn4 := Lib.hid hn4
        dsimp only
        refine hK.out _ _ c24 ?_
        clear hK K'
        try simp only [Act.put, List.setIfInBounds_toArray, List.set_cons_zero, List.set_cons_succ]
        refine wpTree_nil hOps (by kernel_rfl) ?_
        refine hT.out _ _ ?_
        simp only [List.drop_succ_cons, List.drop_zero]
        clear hOps hT hTok hHeld
        clear hwi hfl4 c2 hfil hft4 hb4d
        go_upto_region 10 with fail
        obtain ⟨w5, hw5⟩ : ∃ w5, w5 = w4.setCell ⟨mb, 2, none⟩ (.slice a4 n4 k4) := ⟨_, rfl⟩
        have hg5 : Chg (RS r mb) wz w5 := by
          rw [hw5]
          exact (((Chg.of_below hb4).mono (fun k h1 h2 => by omega))).setCell _ _ (fun _ => .inl rfl)
        rw [← hw5] at h5 ⊢
        clear hw5 c24 cf4 h4 hb4 hlt4
        obtain ⟨ca, cc, hcv, hcl1, hcl2, _⟩ := h5.row.slice
        dsimp only at hcv hcl1 hcl2
        have c4 : w5.cell? ⟨mb, 4, none⟩ = some r.cv := h5.blk.cellAt rfl
        obtain ⟨L, hL⟩ : ∃ L, L = r.chs.length := ⟨_, rfl⟩
        have hLN : L ≤ 1000000 := by rw [hL]; exact Nat.le_trans (h.len_chs hok) hN
        rw [hcv, ← hL] at c4
        have hb5 : base ≤ w5.heap.size := Nat.le_trans hb hg5.size
        have hlm5 := h5.blk.lt
        have hrow5 := h5.row
        dsimp only at hrow5
        rw [hcv, ← hL] at hrow5
        have hne5 := hrow5.ne_blk h5.blk (by decide)
        replace hL := Lib.hid hL
        replace hcv := Lib.hid hcv
        replace hrow5 := Lib.hid hrow5
        try simp only [Act.put]
        go_wp2_with (at_builtin; refine Shut.out ?kw2)
        unfold Shut
        change wpList _ _ _ _ _ (w5.alloc (.cells (encC (⟨1, s, nn, FV.none⟩ : CH)).toArray 91))
        refine wpList_app1g rfl _ _ 43 rfl Try.underlying43 hic hc0 hc1 hc2 rfl (by decide) (enc := encC) (⟨1, s, nn, FV.none⟩ : CH) rfl hrow5.out rfl (encC_len _) (encC_one _) (by rw [← hL.out]; omega) (by rw [← hL.out]; unfold maxLen; omega) hb5 (fun g cap7 w7 hown7 hgr7 => ?_)
        rw [← hL.out] at hown7 hgr7 ⊢
        have hf7 : FileAt w7 base FV.none.v FV.none.bs := .inl ⟨rfl, none, rfl⟩
        have hbk7 := hgr7.blk h5.blk hne5
        have cf7 := hbk7.frozen 4
        have c47 : w7.cell? ⟨mb, 4, none⟩ = some (.slice ca L cc) := hbk7.cellAt (by dsimp only; rw [hcv.out, ← hL.out]; rfl)
        have hgr8 : Grew w5 r.cv w7 (.slice (some ⟨g, 0, none⟩) (L + 1) cap7) := by rw [hcv.out, ← hL.out]; exact hgr7
        have h8 := h5.push (v' := .slice (some ⟨g, 0, none⟩) (L + 1) cap7) (c := (⟨1, s, nn, FV.none⟩ : CH)) hgr8 hown7 hf7
        have hst : RStep wz base mb r rs.2 (w7.setCell ⟨mb, 4, none⟩ (.slice (some ⟨g, 0, none⟩) (L + 1) cap7)) := by
          rw [hrq.out]
          exact RStep.then (r1 := { r with nv := .slice a4 n4 k4, now := withL r.now s f3 }) hg5 (fun k2 hk2 => .inl hk2) h8 (rpush_chg hgr8) (rpush_rs hgr8 rfl)
        have hrs1 : rs.1 = 0 := by rw [hrq.out]
        clear h8 h5 hgr8 hgr7 hown7 hf7 hcv hL hcl1 hcl2 hg5 hrow5 hne5
        go_wp2_with fail
        go_ret
        exact ⟨by first | rfl | (rw [hrs1]; rfl), hst⟩
  · have hwm : cutM M s n = (er, M) := by unfold cutM; rw [← her, if_pos he]
    rw [hwm]
    have d1 : ((er : Int) != 0) = true := by simp; omega
    clear hwm he her h hok
    go_enter Try.func40, Try.ntmps40
    go_wp2_with fail
    refine hrd.mono ?_
    rintro e wz ⟨rfl, rfl⟩
    dsimp only
    go_wp2_with fail
    go_ret
    exact ⟨rfl, hgo0⟩
end Go.Proofs.Ytjhbeahkojippaa
