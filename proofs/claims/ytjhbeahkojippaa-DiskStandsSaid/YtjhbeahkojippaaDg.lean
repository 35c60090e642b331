/- Disk: Cut, Remove. -/
import Derived.Test.YtjhbeahkojippaaDf
namespace Go.Proofs.Ytjhbeahkojippaa
open Go.RowKit Go.Maps
attribute [local go_sem] Oper.semAt_some
set_option linter.unusedVariables false
set_option linter.unusedSimpArgs false

theorem FileAt.place {w : World} {base : Nat} {f : FV} (h : FileAt w base f.v f.bs) : f.cap = 0 ∨ ∃ g, f.ao = some ⟨g, 0, none⟩ := by
  rcases h with ⟨h1, ao, h2⟩ | ⟨g, cap, cells, h1, _⟩
  · unfold FV.v at h2
    simp only [Value.slice.injEq] at h2
    exact .inl h2.2.2
  · unfold FV.v at h1
    simp only [Value.slice.injEq] at h1
    exact .inr ⟨g, h1.1⟩
theorem sizeOfU (w : World) : (sizeOf 5).run Try.prog w = .ok 1 w := Try.sizeOf5 w
theorem run_cut {w0 : World} {base : Nat} {f : FV} (h : FileAt w0 base f.v f.bs) (n m : Nat) (hm : m = f.bs.length) (hn : n ≤ m) (w : World) :
    (Instr.slice 23 (.slice f.ao m f.cap) none (some (.int .i64 n)) none).run Try.prog w = .ok (.slice f.ao n f.cap) w := by
  have hcap : m ≤ f.cap := by rw [hm]; exact (slaf h).1
  have h1 : ¬ ((f.cap : Int) < (n : Int)) := by omega
  have h2 : ¬ ((n : Int) < 0) := by omega
  unfold Instr.slice
  simp [run_underlying Try.underlying23, Instr.sliceBounds, sizeOfU, go_sem]
  intro h
  omega
theorem run_cut3 {w0 : World} {base : Nat} {f : FV} (h : FileAt w0 base f.v f.bs) (n m : Nat) (hm : m = f.bs.length) (hn : n ≤ m) (w : World) :
    (Instr.slice 23 (.slice f.ao m f.cap) none (some (.int .i64 n)) (some (.int .i64 n))).run Try.prog w = .ok (.slice f.ao n n) w := by
  have hcap : m ≤ f.cap := by rw [hm]; exact (slaf h).1
  have h1 : n ≤ f.cap := by omega
  unfold Instr.slice
  simp [run_underlying Try.underlying23, Instr.sliceBounds, sizeOfU, go_sem, h1]

set_option maxRecDepth 100000 in
set_option maxHeartbeats 4000000 in
theorem cut_any {base b : Nat} {x : DX} {M : DM} {N : Nat} (s : ByteArray) (n : Int) (w : World) (hs : s.size ≤ maxLen) (h : Dsk w base b x M) (hok : OkM N M) (hN : N ≤ 1000000) (hb : base ≤ w.heap.size) :
    Calls Try.prog 22 #[.pointer (some ⟨b, 0, none⟩), .string s, .int .i64 n] w fun e w' => e = .returned (.int .i64 (cutM M s n).1) ∧ DStep w base b x (cutM M s n).2 w' := by
  obtain ⟨ii, hi, hz0, hz1, hz2⟩ := partsCh
  have hrd := ready_any b M s n w hs h.c1
  obtain ⟨er, her⟩ : ∃ er, er = readyM M s n := ⟨_, rfl⟩
  rw [← her] at hrd
  by_cases he : er = 0
  · subst he
    obtain ⟨hf, hrt, hn0⟩ := ready0 her.symm
    obtain ⟨nn, rfl⟩ : ∃ nn : Nat, n = nn := ⟨n.toNat, by omega⟩
    have hget := get_abs h.permn hok.now s
    have hge := getE_getL x.now s
    have hml : (entF x.now).length < maxLen := by have := nowN h hok; unfold maxLen; omega
    cases hg : getL x.now s with
    | none =>
      rw [hg] at hget hge
      simp only [Option.map_none] at hget hge
      have hwm : cutM M s nn = (7, M) := by unfold cutM; rw [← her, hget]; simp
      rw [hwm]
      clear hwm hget hg her
      go_enter Try.func22, Try.ntmps22
      go_wp2_with fail
      refine hrd.mono ?_
      rintro e w1 ⟨rfl, hb1⟩
      have h1 := h.below hb1
      have hM1 := h1.mapn
      have c2 := h1.c2
      have hgo := DStep.same h hb1
      dsimp only
      go_wp2_with (at_lookup; refine wpList_lookupL rfl _ _ _ _ rfl keyN hM1 Try.underlying61 (zeroB _) (x := s) hs rfl rfl ?_)
      go_ret
      exact ⟨rfl, hgo⟩
    | some f =>
      rw [hg] at hget hge
      simp only [Option.map_some] at hget hge
      have hfa : FileAt w base f.v f.bs := h.filn _ (getL_mem hg)
      obtain ⟨m, hm⟩ : ∃ m, m = f.bs.length := ⟨_, rfl⟩
      have hfv : f.v = .slice f.ao m f.cap := by rw [hm]; rfl
      rw [hfv] at hge
      have hm30 : m ≤ 1073741824 := by rw [hm]; exact (hok.nown _ (getL_mem hget)).2
      by_cases hgt : m < nn
      · have hwm : cutM M s nn = (8, M) := by
          unfold cutM; rw [← her, hget]
          have : ((f.bs.length : Nat) : Int) < (nn : Int) := by omega
          simp [this]
        rw [hwm]
        have d1 : decide ((m : Int) < (nn : Int)) = true := by simp; omega
        have d2 : decide (m < nn) = true := by simp; omega
        replace hm := Lib.hid hm
        clear hwm hget hg her hfv
        go_enter Try.func22, Try.ntmps22
        go_wp2_with fail
        refine hrd.mono ?_
        rintro e w1 ⟨rfl, hb1⟩
        have h1 := h.below hb1
        have hM1 := h1.mapn
        have c2 := h1.c2
        have hgo := DStep.same h hb1
        dsimp only
        go_wp2_with (at_lookup; refine wpList_lookupL rfl _ _ _ _ rfl keyN hM1 Try.underlying61 (zeroB _) (x := s) hs rfl rfl ?_)
        go_ret
        exact ⟨rfl, hgo⟩
      · have hwm : cutM M s nn = (0, { M with now := withL M.now s (f.bs.take nn), chs := M.chs ++ [⟨1, s, nn, []⟩] }) := by
          unfold cutM; rw [← her, hget]
          have : ¬ ((f.bs.length : Nat) : Int) < (nn : Int) := by omega
          simp [this]
        obtain ⟨rs, hrs⟩ : ∃ rs : Nat × DM, rs = cutM M s nn := ⟨_, rfl⟩
        rw [← hrs]
        have hrq : Hid (rs = (0, { M with now := withL M.now s (f.bs.take nn), chs := M.chs ++ [⟨1, s, nn, []⟩] })) := Lib.hid (by rw [hrs, hwm])
        have d1 : decide ((m : Int) < (nn : Int)) = false := by simp; omega
        have d2 : decide (m < nn) = false := by simp; omega
        have hncap : nn ≤ f.cap := by have := (slaf hfa).1; omega
        have hcl : ∀ wz, Below w.heap.size w wz → Calls Try.prog 31 #[.slice f.ao nn f.cap] wz fun e w' => ∃ v, e = .returned v ∧ FileAt w' w.heap.size v (f.bs.take nn) ∧ Below wz.heap.size wz w' := fun wz hz => by
          have hl : (f.bs.take nn).length = nn := by rw [List.length_take]; omega
          have := clone_any (f.bs.take nn) f.ao f.cap base wz (Nat.le_trans hb hz.size) (slaTake (slaf (hfa.below hz (Nat.le_refl _))) nn) (by rw [hl]; omega)
          rw [hl] at this
          refine this.mono ?_
          rintro e w' ⟨v, rfl, ho, hbe⟩
          exact ⟨v, rfl, (FileAt.own ho).base_le hz.size, hbe⟩
        replace hm := Lib.hid hm
        replace hncap := Lib.hid hncap
        clear hwm hget hg her hfv hrs
        go_enter Try.func22, Try.ntmps22
        go_wp2_with fail
        refine hrd.mono ?_
        rintro e w1 ⟨rfl, hb1⟩
        have h1 := h.below hb1
        have hM1 := h1.mapn
        have c2 := h1.c2
        dsimp only
        go_upto_region 9 with (at_lookup; refine wpList_lookupL rfl _ _ _ _ rfl keyN hM1 Try.underlying61 (zeroB _) (x := s) hs rfl rfl ?_)
        refine wp_region_tree (fun wx => wx.cell? ⟨b, 2, none⟩ = some (.map (some x.mn))) 9 10 (by kernel_rfl) rfl (by kernel_rfl) (fun d _ _ _ _ h => by cases d <;> exact h) (c2) (fun opz T hOps hT hTok hHeld => ?_)
        (refine wpTree_q 0 hTok hOps (by kernel_rfl) rfl rfl ⟨?_, ?_, ?_⟩; rotate_left; (focus (intro wx hSx; (try dsimp only at hSx); go_simp; (try with_reducible rfl))); (simp only [Act.put, List.setIfInBounds_toArray, List.set_cons_zero, List.set_cons_succ]))
        (refine wpTree_q 1 hTok hOps (by kernel_rfl) rfl rfl ⟨?_, ?_, ?_⟩; rotate_left; (focus (intro wx hSx; (try dsimp only at hSx); go_simp; (try with_reducible rfl))); (simp only [Act.put, List.setIfInBounds_toArray, List.set_cons_zero, List.set_cons_succ]))
        (refine wpTree_q 2 hTok hOps (by kernel_rfl) rfl rfl ⟨?_, ?_, ?_⟩; rotate_left; (focus (intro wx hSx; (try dsimp only at hSx); go_simp; (try with_reducible rfl))); (simp only [Act.put, List.setIfInBounds_toArray, List.set_cons_zero, List.set_cons_succ]))
        (refine wpTree_q 3 hTok hOps (by kernel_rfl) rfl rfl ⟨?_, ?_, ?_⟩; rotate_left; (focus (intro wx hSx; (try dsimp only at hSx); go_simp; (try with_reducible rfl))); (simp only [Act.put, List.setIfInBounds_toArray, List.set_cons_zero, List.set_cons_succ]))
        (refine wpTree_q 4 hTok hOps (by kernel_rfl) rfl rfl ⟨?_, ?_, ?_⟩; rotate_left; (focus (intro wx hSx; (try dsimp only at hSx); go_simp; (try with_reducible rfl))); (simp only [Act.put, List.setIfInBounds_toArray, List.set_cons_zero, List.set_cons_succ]))
        (refine wpTree_q 5 hTok hOps (by kernel_rfl) rfl rfl ⟨?_, ?_, ?_⟩; rotate_left; (focus (intro wx hSx; (try dsimp only at hSx); go_simp; (try with_reducible rfl))); (simp only [Act.put, List.setIfInBounds_toArray, List.set_cons_zero, List.set_cons_succ]))
        (refine wpTree_q 6 hTok hOps (by kernel_rfl) rfl rfl ⟨?_, ?_, ?_⟩; rotate_left; (focus (intro wx hSx; (try dsimp only at hSx); go_simp; (try with_reducible rfl))); (simp only [Act.put, List.setIfInBounds_toArray, List.set_cons_zero, List.set_cons_succ]))
        (refine wpTree_qg 7 hTok hOps (by kernel_rfl) rfl rfl ⟨?_, ?_, ?_⟩; rotate_left; (focus (intro wx hSx; (try dsimp only at hSx); go_simp; rw [if_pos hncap.out])); (simp only [Act.put, List.setIfInBounds_toArray, List.set_cons_zero, List.set_cons_succ]))
        refine wpTree_1 8 hOps (by kernel_rfl) (by decide) rfl (fun K' hK => ?_)
        go_simp
        refine (hcl _ hb1.drew).mono ?_
        rintro e w3 ⟨v3, rfl, hf3, hb3⟩
        have hb3' : Below w.heap.size w w3 := hb1.drew.trans (hb3.mono hb1.size)
        have h3 := h.below hb3'
        obtain ⟨f3, rfl, hf3b⟩ := hf3.fv
        rw [← hf3b] at hf3
        have hn3 := Lib.hid hf3.new
        replace hf3 := hf3.base_le hb
        have hM3 := h3.mapn
        dsimp only
        refine hK.out _ _ h3.c2 ?_
        clear hK K'
        try simp only [Act.put, List.setIfInBounds_toArray, List.set_cons_zero, List.set_cons_succ]
        refine wpTree_nil hOps (by kernel_rfl) ?_
        refine hT.out _ _ ?_
        simp only [List.drop_succ_cons, List.drop_zero]
        clear hOps hT hTok hHeld
        clear hcl c2 hM1 h1
        go_upto_region 10 with (at_mapUpdate; refine wpList_updateL rfl _ _ _ _ rfl keyN hM3 Try.underlying61 hml (x := s) hs rfl rfl ?_; intro w4 hM4 hc4)
        have hM4' : MapL Try.prog 9 klT wfT w4 x.mn (entF ((s, f3) :: withoutL x.now s)) := by rw [← Dsk.set_ent]; exact hM4
        have h4 := h3.turnNow hM4' hc4 (Dsk.fil_with h3.filn hf3 s) (Dsk.perm_with h3.permn s f3)
        have hg4 : Chg (DS x b) w w4 := ((Chg.of_below hb3').mono (fun k h1 h2 => by omega)).then_new hc4 (fun i hi e => .inr (.inl e))
        rw [hf3b] at h4
        clear hM4 hM4' h3 hb3 hb3' hf3
        obtain ⟨ca, cc, hcv, hcl1, hcl2, _⟩ := h4.row.slice
        dsimp only at hcv hcl1 hcl2
        have c4 := h4.c4
        dsimp only at c4
        obtain ⟨L, hL⟩ : ∃ L, L = x.chs.length := ⟨_, rfl⟩
        have hLN : L ≤ 1000000 := by rw [hL]; exact Nat.le_trans (chsN h hok) hN
        rw [hcv, ← hL] at c4
        have hb4' : base ≤ w4.heap.size := Nat.le_trans hb hg4.size
        have hbl4 := h4.blk.lt
        have hrow4 := h4.row
        dsimp only at hrow4
        rw [hcv, ← hL] at hrow4
        have hne4 := hrow4.ne_blk h4.blk (by decide)
        replace hL := Lib.hid hL
        replace hcv := Lib.hid hcv
        replace hrow4 := Lib.hid hrow4
        try simp only [Act.put]
        go_wp2_with (at_builtin; refine Shut.out ?kc)
        unfold Shut
        change wpList _ _ _ _ _ (w4.alloc (.cells (encC (⟨1, s, nn, FV.none⟩ : CH)).toArray 67))
        refine wpList_app1g rfl _ _ 62 rfl Try.underlying62 hi hz0 hz1 hz2 rfl (by decide) (enc := encC) (⟨1, s, nn, FV.none⟩ : CH) rfl hrow4.out rfl (encC_len _) (encC_one _) (by rw [← hL.out]; omega) (by rw [← hL.out]; unfold maxLen; omega) hb4' (fun g cap7 w7 hown7 hgr7 => ?_)
        rw [← hL.out] at hown7 hgr7 ⊢
        have hf7 : FileAt w7 base FV.none.v FV.none.bs := .inl ⟨rfl, none, rfl⟩
        have hbk7 := hgr7.blk h4.blk hne4
        have cf7 := hbk7.frozen 4
        have c47 : w7.cell? ⟨b, 4, none⟩ = some (.slice ca L cc) := hbk7.cellAt (by rw [hcv.out, ← hL.out]; rfl)
        have hgr8 : Grew w4 x.cv w7 (.slice (some ⟨g, 0, none⟩) (L + 1) cap7) := by rw [hcv.out, ← hL.out]; exact hgr7
        have h8 := h4.push (v' := .slice (some ⟨g, 0, none⟩) (L + 1) cap7) (c := (⟨1, s, nn, FV.none⟩ : CH)) hgr8 hown7 hf7
        have hst : DStep w base b x rs.2 (w7.setCell ⟨b, 4, none⟩ (.slice (some ⟨g, 0, none⟩) (L + 1) cap7)) := by
          rw [hrq.out]
          exact DStep.then (x1 := { x with now := (s, f3) :: withoutL x.now s }) (M1 := M) hg4 (fun k2 hk2 => .inl hk2) h8 (push_chg hgr8) (push_ds (x := { x with now := (s, f3) :: withoutL x.now s }) hgr8 rfl rfl rfl) (NewF.push hn3.out (fun g h => absurd h none_at))
        have hrs1 : rs.1 = 0 := by rw [hrq.out]
        clear h8 h4 hgr8 hgr7 hown7 hf7 hcv hL hcl1 hcl2 hg4 hrow4 hne4
        go_wp2_with fail
        go_ret
        exact ⟨rfl, hst⟩
  · have hwm : cutM M s n = (er, M) := by unfold cutM; rw [← her, if_pos he]
    rw [hwm]
    have d1 : ((er : Int) != 0) = true := by simp; omega
    have hgo : ∀ w1, Below w.heap.size w w1 → DStep w base b x M w1 := fun w1 h1 => DStep.same h h1
    clear hwm he her h hok
    go_enter Try.func22, Try.ntmps22
    go_wp2_with fail
    refine hrd.mono ?_
    rintro e w1 ⟨rfl, hb1⟩
    dsimp only
    go_wp2_with fail
    go_ret
    exact ⟨rfl, hgo _ hb1⟩

set_option maxRecDepth 100000 in
set_option maxHeartbeats 4000000 in
theorem remove_any {base b : Nat} {x : DX} {M : DM} {N : Nat} (s : ByteArray) (w : World) (hs : s.size ≤ maxLen) (h : Dsk w base b x M) (hok : OkM N M) (hN : N ≤ 1000000) (hb : base ≤ w.heap.size) :
    Calls Try.prog 23 #[.pointer (some ⟨b, 0, none⟩), .string s] w fun e w' => e = .returned (.int .i64 (removeM M s).1) ∧ DStep w base b x (removeM M s).2 w' := by
  obtain ⟨ii, hi, hz0, hz1, hz2⟩ := partsCh
  have hrd := ready_any b M s 0 w hs h.c1
  obtain ⟨er, her⟩ : ∃ er, er = readyM M s 0 := ⟨_, rfl⟩
  rw [← her] at hrd
  by_cases he : er = 0
  · subst he
    have hget := get_abs h.permn hok.now s
    have hge := getE_getL x.now s
    cases hg : getL x.now s with
    | none =>
      rw [hg] at hget hge
      simp only [Option.map_none] at hget hge
      have hwm : removeM M s = (7, M) := by unfold removeM; rw [← her, hget]; simp
      rw [hwm]
      clear hwm hget hg her
      go_enter Try.func23, Try.ntmps23
      go_wp2_with fail
      refine hrd.mono ?_
      rintro e w1 ⟨rfl, hb1⟩
      have h1 := h.below hb1
      have hM1 := h1.mapn
      have c2 := h1.c2
      have hgo := DStep.same h hb1
      dsimp only
      go_wp2_with (at_lookup; refine wpList_lookupL rfl _ _ _ _ rfl keyN hM1 Try.underlying61 (zeroB _) (x := s) hs rfl rfl ?_)
      go_ret
      exact ⟨rfl, hgo⟩
    | some f =>
      rw [hg] at hget hge
      simp only [Option.map_some] at hget hge
      have hfv : f.v = .slice f.ao f.bs.length f.cap := rfl
      rw [hfv] at hge
      have hwm : removeM M s = (0, { M with now := withoutL M.now s, chs := M.chs ++ [⟨2, s, 0, []⟩] }) := by unfold removeM; rw [← her, hget]; simp
      obtain ⟨rs, hrs⟩ : ∃ rs : Nat × DM, rs = removeM M s := ⟨_, rfl⟩
      rw [← hrs]
      have hrq : Hid (rs = (0, { M with now := withoutL M.now s, chs := M.chs ++ [⟨2, s, 0, []⟩] })) := Lib.hid (by rw [hrs, hwm])
      clear hwm hget hg her hfv hrs
      go_enter Try.func23, Try.ntmps23
      go_wp2_with fail
      refine hrd.mono ?_
      rintro e w1 ⟨rfl, hb1⟩
      have h1 := h.below hb1
      have hM1 := h1.mapn
      have c2 := h1.c2
      dsimp only
      go_upto_region 7 with (at_lookup; refine wpList_lookupL rfl _ _ _ _ rfl keyN hM1 Try.underlying61 (zeroB _) (x := s) hs rfl rfl ?_)
      go_upto_region 8 with (at_delete; refine wpList_deleteL rfl _ _ _ rfl keyN hM1 Try.underlying61 (x := s) hs rfl rfl ?_; intro w4 hM4 hc4)
      have hM4' : MapL Try.prog 9 klT wfT w4 x.mn (entF (withoutL x.now s)) := by rw [← del_ent]; exact hM4
      have h4 := h1.turnNow hM4' hc4 (Dsk.fil_without h1.filn s) (Dsk.perm_without h1.permn s)
      have hg4 : Chg (DS x b) w w4 := ((Chg.of_below hb1).mono (fun k h1 h2 => by omega)).then_new hc4 (fun i hi e => .inr (.inl e))
      clear hM4 hM4' h1 hb1 c2 hM1
      obtain ⟨ca, cc, hcv, hcl1, hcl2, _⟩ := h4.row.slice
      dsimp only at hcv hcl1 hcl2
      have c4 := h4.c4
      dsimp only at c4
      obtain ⟨L, hL⟩ : ∃ L, L = x.chs.length := ⟨_, rfl⟩
      have hLN : L ≤ 1000000 := by rw [hL]; exact Nat.le_trans (chsN h hok) hN
      rw [hcv, ← hL] at c4
      have hb4' : base ≤ w4.heap.size := Nat.le_trans hb hg4.size
      have hbl4 := h4.blk.lt
      have hrow4 := h4.row
      dsimp only at hrow4
      rw [hcv, ← hL] at hrow4
      have hne4 := hrow4.ne_blk h4.blk (by decide)
      replace hL := Lib.hid hL
      replace hcv := Lib.hid hcv
      replace hrow4 := Lib.hid hrow4
      try simp only [Act.put]
      go_wp2_with (at_builtin; refine Shut.out ?kr)
      unfold Shut
      change wpList _ _ _ _ _ (w4.alloc (.cells (encC (⟨2, s, 0, FV.none⟩ : CH)).toArray 67))
      refine wpList_app1g rfl _ _ 62 rfl Try.underlying62 hi hz0 hz1 hz2 rfl (by decide) (enc := encC) (⟨2, s, 0, FV.none⟩ : CH) rfl hrow4.out rfl (encC_len _) (encC_one _) (by rw [← hL.out]; omega) (by rw [← hL.out]; unfold maxLen; omega) hb4' (fun g cap7 w7 hown7 hgr7 => ?_)
      rw [← hL.out] at hown7 hgr7 ⊢
      have hf7 : FileAt w7 base FV.none.v FV.none.bs := .inl ⟨rfl, none, rfl⟩
      have hbk7 := hgr7.blk h4.blk hne4
      have cf7 := hbk7.frozen 4
      have c47 : w7.cell? ⟨b, 4, none⟩ = some (.slice ca L cc) := hbk7.cellAt (by rw [hcv.out, ← hL.out]; rfl)
      have hgr8 : Grew w4 x.cv w7 (.slice (some ⟨g, 0, none⟩) (L + 1) cap7) := by rw [hcv.out, ← hL.out]; exact hgr7
      have h8 := h4.push (v' := .slice (some ⟨g, 0, none⟩) (L + 1) cap7) (c := (⟨2, s, 0, FV.none⟩ : CH)) hgr8 hown7 hf7
      have hst : DStep w base b x rs.2 (w7.setCell ⟨b, 4, none⟩ (.slice (some ⟨g, 0, none⟩) (L + 1) cap7)) := by
        rw [hrq.out]
        exact DStep.then (x1 := { x with now := withoutL x.now s }) (M1 := M) hg4 (fun k2 hk2 => .inl hk2) h8 (push_chg hgr8) (push_ds (x := { x with now := withoutL x.now s }) hgr8 rfl rfl rfl) (NewF.pull (fun g h => absurd h none_at))
      have hrs1 : rs.1 = 0 := by rw [hrq.out]
      clear h8 h4 hgr8 hgr7 hown7 hf7 hcv hL hcl1 hcl2 hg4 hrow4 hne4
      go_wp2_with fail
      go_ret
      exact ⟨rfl, hst⟩
  · have hwm : removeM M s = (er, M) := by unfold removeM; rw [← her, if_pos he]
    rw [hwm]
    have d1 : ((er : Int) != 0) = true := by simp; omega
    have hgo : ∀ w1, Below w.heap.size w w1 → DStep w base b x M w1 := fun w1 h1 => DStep.same h h1
    clear hwm he her h hok
    go_enter Try.func23, Try.ntmps23
    go_wp2_with fail
    refine hrd.mono ?_
    rintro e w1 ⟨rfl, hb1⟩
    dsimp only
    go_wp2_with fail
    go_ret
    exact ⟨rfl, hgo _ hb1⟩
end Go.Proofs.Ytjhbeahkojippaa
