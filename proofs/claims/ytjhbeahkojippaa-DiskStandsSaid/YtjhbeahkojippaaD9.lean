/- Disk: the document's disk: Remove. -/
import Derived.Test.YtjhbeahkojippaaD8
namespace Go.Proofs.Ytjhbeahkojippaa
open Go.RowKit Go.Maps
attribute [local go_sem] Oper.semAt_some
set_option linter.unusedVariables false
set_option linter.unusedSimpArgs false

theorem Rf.len_chs {w : World} {base mb : Nat} {r : RX} {M : DM} (h : Rf w base mb r M) {N : Nat} (hok : OkM N M) : r.chs.length ≤ N := by
  have q1 := congrArg List.length h.chq
  rw [List.length_map] at q1
  have := hok.lsc
  omega

set_option maxRecDepth 100000 in
set_option maxHeartbeats 4000000 in
theorem rremove_any {base mb : Nat} {r : RX} {M : DM} {N : Nat} (s : ByteArray) (w : World) (hs : s.size ≤ maxLen) (h : Rf w base mb r M) (hok : OkM N M) (hN : N ≤ 1000000) (hb : base ≤ w.heap.size) :
    Calls Try.prog 41 #[.pointer (some ⟨mb, 0, none⟩), .string s] w fun e w' => e = .returned (.int .i64 (removeM M s).1) ∧ RStep w base mb r (removeM M s).2 w' := by
  have hrd := rready_any mb M s 0 w hs (h.blk.cellAt rfl)
  obtain ⟨er, her⟩ : ∃ er, er = readyM M s 0 := ⟨_, rfl⟩
  rw [← her] at hrd
  have hgo0 := RStep.same h (Below.refl w.heap.size w)
  by_cases he : er = 0
  · subst he
    obtain ⟨ic, hic, hc0, hc1, hc2⟩ := partsRc
    have hge := rget_any s base r.nv r.now w h.now (Nat.le_trans (h.len_now hok) hN)
    have hgn := h.get_now s
    have c2 : w.cell? ⟨mb, 2, none⟩ = some r.nv := h.blk.cellAt rfl
    obtain ⟨na, nc, hnv, _, _, _⟩ := h.now.slice
    obtain ⟨nl, hnl⟩ : ∃ nl, nl = r.now.length := ⟨_, rfl⟩
    rw [hnv, ← hnl] at c2 hge
    have hslot : r.nv = .slice na nl nc := by rw [hnv, hnl]
    replace hnl := Lib.hid hnl
    replace hslot := Lib.hid hslot
    clear hnv
    cases hg : getL r.now s with
    | none =>
      have hwm : removeM M s = (7, M) := by unfold removeM; rw [← her, hgn, hg]; simp
      rw [hwm]
      rw [hg] at hge
      have hfv : (fileOf r.now s).v = .slice none 0 0 := by unfold fileOf; rw [hg]; rfl
      rw [hfv] at hge
      simp only [Option.isSome_none] at hge
      clear hwm hg hfv hgn her
      go_enter Try.func41, Try.ntmps41
      go_wp2_with fail
      refine hrd.mono ?_
      rintro e wz ⟨rfl, rfl⟩
      dsimp only
      go_wp2_with fail
      refine hge.mono ?_
      rintro e wz ⟨rfl, rfl⟩
      dsimp only
      go_wp2_with fail
      go_ret
      exact ⟨rfl, hgo0⟩
    | some f =>
      have hwm : removeM M s = (0, { M with now := withoutL M.now s, chs := M.chs ++ [⟨2, s, 0, []⟩] }) := by unfold removeM; rw [← her, hgn, hg]; simp
      rw [hg] at hge
      obtain ⟨ff, hff⟩ : ∃ ff, ff = fileOf r.now s := ⟨_, rfl⟩
      rw [← hff] at hge
      unfold FV.v at hge
      simp only [Option.isSome_some] at hge
      obtain ⟨rs, hrs⟩ : ∃ rs : Nat × DM, rs = removeM M s := ⟨_, rfl⟩
      rw [← hrs]
      have hrq : Hid (rs = (0, { M with now := withoutL M.now s, chs := M.chs ++ [⟨2, s, 0, []⟩] })) := Lib.hid (by rw [hrs, hwm])
      have hwo := without_any s base r.nv r.now w h.now (Nat.le_trans (h.len_now hok) hN)
      rw [hslot.out] at hwo
      replace hgo0 := Lib.hid hgo0
      clear hwm hg hgn her hff hrs
      go_enter Try.func41, Try.ntmps41
      go_wp2_with fail
      refine hrd.mono ?_
      rintro e wz ⟨rfl, rfl⟩
      dsimp only
      go_wp2_with fail
      refine hge.mono ?_
      rintro e wz ⟨rfl, rfl⟩
      dsimp only
      go_wp2_with fail
      refine hwo.mono ?_
      rintro e w4 ⟨v4, rfl, hfl4, hb4⟩
      have h4 := h.below hb4
      have c24 := (hb4.cell (p := ⟨mb, 2, none⟩) h.blk.lt).trans c2
      have h5 := h4.setNow (hfl4.base_le hb) (fun p hp => h4.filn p (mem_withoutL.1 hp).1) (show mapL FV.bs (withoutL r.now s) = withoutL M.now s by rw [withoutL_map, h.nq])
      have cf4 := h4.blk.frozen 2
      have hlt4 := h4.blk.lt
      obtain ⟨a4, k4, hv4, _, _, _⟩ := hfl4.slice
      obtain ⟨n4, hn4⟩ : ∃ n4, n4 = (withoutL r.now s).length := ⟨_, rfl⟩
      rw [← hn4] at hv4
      subst hv4
      replace hn4 := Lib.hid hn4
      clear hrd hge hwo hfl4 c2
      dsimp only
      go_upto_region 8 with fail
      obtain ⟨w5, hw5⟩ : ∃ w5, w5 = w4.setCell ⟨mb, 2, none⟩ (.slice a4 n4 k4) := ⟨_, rfl⟩
      have hg5 : Chg (RS r mb) wz w5 := by
        rw [hw5]
        exact (((Chg.of_below hb4).mono (fun k h1 h2 => by omega))).setCell _ _ (fun _ => .inl rfl)
      rw [← hw5] at h5 ⊢
      clear hw5 c24 cf4 h4 hb4 hlt4
      obtain ⟨ca, cc, hcv, hcl1, hcl2, _⟩ := h5.row.slice
      dsimp only at hcv hcl1 hcl2
      have c4 : w5.cell? ⟨mb, 4, none⟩ = some r.cv := h5.blk.cellAt rfl
      obtain ⟨L, hL⟩ : ∃ L, L = r.chs.length := ⟨_, rfl⟩
      have hLN : L ≤ 1000000 := by rw [hL]; exact Nat.le_trans (h.len_chs hok) hN
      rw [hcv, ← hL] at c4
      have hb5 : base ≤ w5.heap.size := Nat.le_trans hb hg5.size
      have hlm5 := h5.blk.lt
      have hrow5 := h5.row
      dsimp only at hrow5
      rw [hcv, ← hL] at hrow5
      have hne5 := hrow5.ne_blk h5.blk (by decide)
      replace hL := Lib.hid hL
      replace hcv := Lib.hid hcv
      replace hrow5 := Lib.hid hrow5
      try simp only [Act.put]
      go_wp2_with (at_builtin; refine Shut.out ?kw1)
      unfold Shut
      change wpList _ _ _ _ _ (w5.alloc (.cells (encC (⟨2, s, 0, FV.none⟩ : CH)).toArray 91))
      refine wpList_app1g rfl _ _ 43 rfl Try.underlying43 hic hc0 hc1 hc2 rfl (by decide) (enc := encC) (⟨2, s, 0, FV.none⟩ : CH) rfl hrow5.out rfl (encC_len _) (encC_one _) (by rw [← hL.out]; omega) (by rw [← hL.out]; unfold maxLen; omega) hb5 (fun g cap7 w7 hown7 hgr7 => ?_)
      rw [← hL.out] at hown7 hgr7 ⊢
      have hf7 : FileAt w7 base FV.none.v FV.none.bs := .inl ⟨rfl, none, rfl⟩
      have hbk7 := hgr7.blk h5.blk hne5
      have cf7 := hbk7.frozen 4
      have c47 : w7.cell? ⟨mb, 4, none⟩ = some (.slice ca L cc) := hbk7.cellAt (by dsimp only; rw [hcv.out, ← hL.out]; rfl)
      have hgr8 : Grew w5 r.cv w7 (.slice (some ⟨g, 0, none⟩) (L + 1) cap7) := by rw [hcv.out, ← hL.out]; exact hgr7
      have h8 := h5.push (v' := .slice (some ⟨g, 0, none⟩) (L + 1) cap7) (c := (⟨2, s, 0, FV.none⟩ : CH)) hgr8 hown7 hf7
      have hst : RStep wz base mb r rs.2 (w7.setCell ⟨mb, 4, none⟩ (.slice (some ⟨g, 0, none⟩) (L + 1) cap7)) := by
        rw [hrq.out]
        exact RStep.then (r1 := { r with nv := .slice a4 n4 k4, now := withoutL r.now s }) hg5 (fun k2 hk2 => .inl hk2) h8 (rpush_chg hgr8) (rpush_rs hgr8 rfl)
      have hrs1 : rs.1 = 0 := by rw [hrq.out]
      clear h8 h5 hgr8 hgr7 hown7 hf7 hcv hL hcl1 hcl2 hg5 hrow5 hne5
      go_wp2_with fail
      go_ret
      exact ⟨by first | rfl | (rw [hrs1]; rfl), hst⟩
  · have hwm : removeM M s = (er, M) := by unfold removeM; rw [← her, if_pos he]
    rw [hwm]
    have d1 : ((er : Int) != 0) = true := by simp; omega
    clear hwm he her h hok
    go_enter Try.func41, Try.ntmps41
    go_wp2_with fail
    refine hrd.mono ?_
    rintro e wz ⟨rfl, rfl⟩
    dsimp only
    go_wp2_with fail
    go_ret
    exact ⟨rfl, hgo0⟩
end Go.Proofs.Ytjhbeahkojippaa
