/- Gossip: the walk of GossipKeeps. -/
import Derived.Test.YtjmbafcpbagpdaaJe
namespace Go.Proofs.Ytjmbafcpbagpdaa
open Go.RowKit Go.Shelf Go.Maps
set_option linter.unusedVariables false
set_option linter.unusedSimpArgs false

theorem n_most {ops : List TOp} (h : (gcheck ops).2 = 0) : ops.length ≤ 16 := (okG_of_check h).most
theorem beqInt_self (x : Int) : (x == x) = true := by simp
set_option maxRecDepth 100000 in
set_option maxHeartbeats 8000000 in
theorem gkeeps_walk (ops : List TOp) (cap : Nat) (ao : Option Addr) (k : Int) (bl : List TCount) (ba : Option Addr) (bc : Nat) (l : List TCount) (la : Option Addr) (lc : Nat) (w : World) (hx : SlA w.heap.size 7 (ROp w.heap.size) w ao cap ops) (hzi : ∀ o ∈ ops, o.fIn.length * 8 ≤ 140737488355328)
    (hb : SlA w.heap.size 4 (RCount w.heap.size) w ba bc bl) (hbz : bl.length ≤ 1048576) (hl : SlA w.heap.size 4 (RCount w.heap.size) w la lc l) (hlz : l.length ≤ 1048576) :
    Calls Try.prog 4 #[.agg #[.slice ao ops.length cap, .int .i64 k, .slice ba bl.length bc], .slice la l.length lc] w fun e w' => e = .returned (.bool true) ∧ Below w.heap.size w w' := by
  obtain ⟨jK, hiK, hK0, hK1, hK2⟩ := info_parts infoK
  have hN := fun W (hb2 : Below w.heap.size w W) (bo : Option Addr) (bc2 : Nat) (hv : SlA W.heap.size 4 (RCount W.heap.size) W bo bc2 bl) => gnew_all k bl bo bc2 1048576 ops ao cap W (imp_ops2 hx hb2) hzi hv (by omega)
  obtain ⟨n, hn⟩ : ∃ n, n = ops.length := ⟨_, rfl⟩
  rw [← hn] at hN ⊢
  obtain ⟨nb, hnb⟩ : ∃ nb, nb = bl.length := ⟨_, rfl⟩
  rw [← hnb] at hN hbz ⊢
  obtain ⟨m, hm⟩ : ∃ m, m = l.length := ⟨_, rfl⟩
  rw [← hm] at hlz ⊢
  replace hN := Lib.hid hN
  replace hn := Lib.hid hn
  replace hnb := Lib.hid hnb
  replace hm := Lib.hid hm
  go_enter Try.func4, Try.ntmps4
  go_wp2_with fail
  refine (gknown_any _).mono ?_
  rintro e w1 ⟨rfl, hb1⟩
  have hX1 : Blk w1 w.heap.size #[.slice ao n cap, .int .i64 k, .slice ba nb bc] 27 := (Blk.new w _ _).below hb1 (by simp)
  have hbel1 : Below w.heap.size w w1 := (below_allocJ w (.cells #[.slice ao n cap, .int .i64 k, .slice ba nb bc] 27)).trans (hb1.mono (by simp))
  have hw1 : w.heap.size + 1 ≤ w1.heap.size := hX1.lt
  clear hb1
  have x2 := (hX1.alloc (.cells #[] 57)).cellAt (i := 2) (v := .slice ba nb bc) rfl
  dsimp only
  go_wp2_with (at_builtin; refine Shut.out ?ka)
  unfold Shut
  have hown0 : OwnL encK (w1.alloc (.cells #[] 57)) w1.heap.size 57 4 (.slice (some ⟨w1.heap.size, 0, none⟩) 0 0) [] := OwnL.of_blk (xs := []) (cap := 0) (Blk.new w1 #[] 57) (Nat.le_refl _) (Nat.le_refl 0) (by unfold maxLen; omega) rfl rfl rfl
  have hii2 : SlA w.heap.size 4 (fun _ cs x => cs = encK x) (w1.alloc (.cells #[] 57)) ba bc bl := hb.imp (hbel1.trans ((below_allocJ w1 _).mono hbel1.size)) (Nat.le_refl _) (fun cs x _ h => h.1)
  refine wpList_app_sla (xs := []) (ys := bl) (enc := encK) (base := w1.heap.size) _ rfl _ _ 25 rfl Try.underlying25 hiK hK0 hK1 hK2 rfl (by decide) rfl hown0 (by show Value.slice ba nb bc = _; rw [hnb.out]) hii2 encK_len encK_one (by rw [← hnb.out]; unfold maxLen; simp; omega) (by rw [← hnb.out]; simp; omega) (by simp) (fun v3 w3 hown3 hgr3 => ?_)
  rw [List.nil_append] at hown3
  have hb13 : Below w1.heap.size w1 w3 := (below_allocJ w1 (.cells #[] 57)).grown hgr3 (by simp) (fun g hg => by simp [Act.eval, Value.ownBlock] at hg; omega)
  clear hown0 hii2 hgr3 x2
  have hX3 := hX1.below hb13 hX1.lt
  have hbel3 := hbel1.trans (hb13.mono hbel1.size)
  have hs3 := hb13.size
  obtain ⟨bo, bc2, hv3, hsb⟩ := hown3.sla (E := RCount w3.heap.size) encK_len (rcount_all hb)
  rw [← hnb.out] at hv3
  subst hv3
  have hbform := hown3.lt
  obtain ⟨W1s, hW1s⟩ : ∃ s, s = w1.heap.size := ⟨_, rfl⟩
  rw [← hW1s] at hown3 hbform hs3 hw1
  clear hX1 hb13
  have x0 := hX3.cellAt (i := 0) (v := .slice ao n cap) rfl
  have x1 := hX3.cellAt (i := 1) (v := .int .i64 k) rfl
  go_wp2_with fail
  refine (hN.out w3 hbel3 bo bc2 hsb).mono ?_
  rintro e w4 ⟨hb34, hbadx, hgoodx⟩
  have hX4 := hX3.below hb34 hX3.lt
  have hbel4 := hbel3.trans (hb34.mono hbel3.size)
  have hown4 := hown3.below hb34 (Nat.le_refl _)
  have hs4 := hb34.size
  have hb4 : SlA w4.heap.size 4 (RCount w4.heap.size) w4 ba bc bl := hb.imp hbel4 hbel4.size (fun _ _ _ h => h.imp hbel4 hbel4.size)
  clear hX3 x0 x1 hsb
  have x0 := hX4.cellAt (i := 0) (v := .slice ao n cap) rfl
  have x1 := hX4.cellAt (i := 1) (v := .int .i64 k) rfl
  have x2 := hX4.cellAt (i := 2) (v := .slice ba nb bc) rfl
  have hNy := hN.out w4 hbel4 ba bc hb4
  replace hNy := Lib.hid hNy
  clear hN hb4
  by_cases hge : newGE ops k bl = 0
  · obtain ⟨g1, p1, rfl, hpg1, hG4⟩ := hgoodx hge
    dsimp only
    go_wp2_with fail
    refine hNy.out.mono ?_
    rintro e w5 ⟨hb45, _, hgoody⟩
    obtain ⟨g2, p2, rfl, hpg2, hG5⟩ := hgoody hge
    have hbel5 := hbel4.trans (hb45.mono hbel4.size)
    have hX5 := hX4.below hb45 hX4.lt
    have hs5 := hb45.size
    have hT5 : Two w5 w5 (w.heap.size + 1) w3.heap.size w4.heap.size (fun _ => False) g1 p1 (newGM k.toNat bl) w4.heap.size w5.heap.size (fun _ => False) g2 p2 (newGM k.toNat bl) ops bl.length 1048576 :=
      ⟨hG4.below hb45, hG5, fun k h1 h2 => by rcases h1 with h1 | h1 <;> rcases h2 with h2 | h2 <;> omega, Below.refl _ _, by omega, by omega, by omega⟩
    have hR5 : RowB w5 bo bl 0 W1s w3.heap.size := (RowB.of_own hown4).chg (Chg.of_below hb45) (fun g h1 h2 e => by have := hb34.size; omega) |> fun h => by
      rcases h with h | ⟨g, cells, q1, q2, q3, q4, q5, q6⟩
      · exact .inl h
      · exact .inr ⟨g, cells, q1, q2, q3, (hbform g (by rw [q1]; rfl)).2, q5, q6⟩
    obtain ⟨mm, hmm⟩ : ∃ mm, mm = newGM k.toNat bl := ⟨_, rfl⟩
    rw [← hmm] at hT5
    have hm1 : 1 ≤ mm.n := hT5.gx.n1
    replace hmm := Lib.hid hmm
    clear hgoody hG4 hG5 hbadx hgoodx hNy hown4 hbform hX4 hb34 hb45 x0 x1 x2 hown3 hbel4
    dsimp only
    go_wp2_with (at_builtin; refine Shut.out ?kb)
    unfold Shut
    have hown0 : OwnL encK (w5.alloc (.cells #[] 57)) w5.heap.size 57 4 (.slice (some ⟨w5.heap.size, 0, none⟩) 0 0) [] := OwnL.of_blk (xs := []) (cap := 0) (Blk.new w5 #[] 57) (Nat.le_refl _) (Nat.le_refl 0) (by unfold maxLen; omega) rfl rfl rfl
    have hii2 : SlA w.heap.size 4 (fun _ cs x => cs = encK x) (w5.alloc (.cells #[] 57)) la lc l := hl.imp (hbel5.trans ((below_allocJ w5 _).mono hbel5.size)) (Nat.le_refl _) (fun cs x _ h => h.1)
    refine wpList_app_sla (xs := []) (ys := l) (enc := encK) (base := w5.heap.size) _ rfl _ _ 25 rfl Try.underlying25 hiK hK0 hK1 hK2 rfl (by decide) rfl hown0 (by show Value.slice la m lc = _; rw [hm.out]) hii2 encK_len encK_one (by rw [← hm.out]; unfold maxLen; simp; omega) (by rw [← hm.out]; simp; omega) (by simp) (fun v6 w6 hown6 hgr6 => ?_)
    rw [List.nil_append] at hown6
    have hb56 : Below w5.heap.size w5 w6 := (below_allocJ w5 (.cells #[] 57)).grown hgr6 (by simp) (fun g hg => by simp [Act.eval, Value.ownBlock] at hg; omega)
    clear hown0 hii2 hgr6
    have hT6 := hT5.below hb56
    have hs6 := hb56.size
    have hR6 := hR5.chg (Chg.of_below hb56) (fun g h1 h2 e => by omega)
    obtain ⟨ai, ci, hv6, hsi⟩ := hown6.sla (E := RCount w6.heap.size) encK_len (rcount_all hl)
    rw [← hm.out] at hv6
    subst hv6
    have hI6 := RowB.of_own hown6
    have haib := hown6.lt
    have hDx := do_any 0 l ai ci w6 hT6.gx hpg1 hsi (by have := hm.out; omega) (by have := hm.out; have := hnb.out; omega) (by have := hm.out; omega) (fun _ a e hf => by
      have := (haib a.block (by rw [e]; rfl)).1
      rcases hf with hf | hf <;> omega)
    rw [← hm.out] at hDx
    obtain ⟨ud, hud⟩ : ∃ ud, ud = doE ops mm 0 l := ⟨_, rfl⟩
    obtain ⟨mD, hmD⟩ : ∃ mD, mD = doM ops mm 0 l := ⟨_, rfl⟩
    have hmDn : 1 ≤ mD.n := by
      rw [hmD]
      unfold doM
      split <;> exact hm1
    rw [← hud, ← hmD] at hDx
    replace hDx := Lib.hid hDx
    clear hT5 hR5 hown6 hsi haib hb56
    go_wp2_with fail
    refine hDx.out.mono ?_
    rintro e w7 ⟨rfl, hP7⟩
    have hc7 := hP7.1
    obtain ⟨X1, hX1', hT7⟩ := hT6.doX (Nat.le_add_right _ _) hP7
    have hR7 := hR6.chg hc7 (fun g h1 h2 e => by rcases e with e | e <;> omega)
    have hI7 := hI6.chg hc7 (fun g h1 h2 e => by rcases e with e | e <;> omega)
    have hs7 := hc7.size
    have hbel7 := hbel5.trans (hT7.bel.mono (Nat.le_succ _))
    have hDy := do_any 0 l la lc w7 hT7.gy hpg2 (hl.imp hbel7 hbel7.size (fun _ _ _ h => h.imp hbel7 hbel7.size)) (by have := hm.out; omega) (by have := hm.out; have := hnb.out; omega) (by have := hm.out; omega) (fun hl0 a e hf => by
      obtain ⟨b2, off2, e2, hb2, _⟩ := hl.2.2.2 hl0
      rw [e] at e2
      cases e2
      have h1 := hT7.gy.foot_ge hf
      have h2 := hT7.b2
      have h3 : b2 < w.heap.size := hb2
      have h4 : w4.heap.size ≤ b2 := h1
      omega)
    rw [← hm.out, ← hud, ← hmD] at hDy
    replace hDy := Lib.hid hDy
    replace hud := Lib.hid hud
    replace hmD := Lib.hid hmD
    clear hDx hT6 hR6 hI6 hP7 hc7
    dsimp only
    go_wp2_with fail
    refine hDy.out.mono ?_
    rintro e w8 ⟨rfl, hP8⟩
    have hc8 := hP8.1
    obtain ⟨X2, hX2', hT8⟩ := hT7.doY (Nat.le_add_right _ _) hP8
    have hR8 := hR7.chg hc8 (fun g h1 h2 e => by rcases e with e | e <;> omega)
    have hI8 := hI7.chg hc8 (fun g h1 h2 e => by rcases e with e | e <;> omega)
    have hs8 := hc8.size
    clear hDy hT7 hR7 hI7 hP8 hc8 hbel7
    have hlen := hl.len
    rw [← hm.out] at hlen
    dsimp only
    go_wp2_with fail
    go_loopw [13] (fun x13 wr => ∃ i : Nat, i ≤ m ∧ x13 = .int .i64 i ∧ Two w5 wr (w.heap.size + 1) w3.heap.size w4.heap.size X1 g1 p1 mD w4.heap.size w5.heap.size X2 g2 p2 mD ops (bl.length + m + m) 1048576 ∧ RowB wr bo bl 0 W1s w3.heap.size ∧ RowB wr ai l i w5.heap.size w6.heap.size ∧ w6.heap.size ≤ wr.heap.size) (fun x13 _ => m - (intOf x13).toNat)
    case atStart => exact ⟨0, Nat.zero_le _, rfl, hT8, hR8, hI8, by omega⟩
    case round =>
      clear hT8 hR8 hI8
      obtain ⟨i, him, rfl, hT, hR, hI, h6r⟩ := hrel
      by_cases hi : i < m
      · have hix : i < l.length := by rw [← hm.out]; exact hi
        have hbw := hbel5.trans (hT.bel.mono (Nat.le_succ _))
        obtain ⟨b2, off2, rfl, hb2l, _⟩ := hl.addr (by omega)
        obtain ⟨g, rfl, hg1, hg2, f0, f1, f2, f3, ff, hgl, hset⟩ := hI.at' hix (Nat.le_refl i)
        obtain ⟨c, hc⟩ : ∃ c, l[i] = c := ⟨_, rfl⟩
        obtain ⟨e0, e1, e2, e3, _⟩ := RCount.at (hl.imp hbw (Nat.le_refl _) (fun _ _ _ h => h.imp hbw (Nat.le_refl _))) hix hc
        rw [hc] at f0 f1 f2 f3
        obtain ⟨⟨cl, ⟨ce, cr⟩⟩, cN⟩ := c
        dsimp only at e0 e1 e2 e3 f0 f1 f2 f3
        have q0 := Wd.cell e0 (World.lt_of_cell e0)
        have q1 := Wd.cell e1 (World.lt_of_cell e1)
        have q2 := Wd.cell e2 (World.lt_of_cell e2)
        have q3 := Wd.cell e3 (World.lt_of_cell e3)
        have p0 := Wd.cell f0 (World.lt_of_cell f0)
        have p1' := Wd.cell f1 (World.lt_of_cell f1)
        have p2' := Wd.cell f2 (World.lt_of_cell f2)
        have p3 := Wd.cell f3 (World.lt_of_cell f3)
        have hsame := fun W => rsame_tt cl ce cr W
        have hvv : ((cN : Int) != cN) = false := by simp
        clear hc
        replace hset := Lib.hid hset
        go_wp2_with fail
        refine wp_region_below (by kernel_rfl) (by kernel_rfl) ?_
        repeat (go_big_quiet_step ((go_at_call 18; exact Calls.quiet_below (hsame _))))
        refine wpQuiet_nil ?_
        rintro _ ⟨u, rfl⟩
        have hTu := hT.below u.h
        have hRu := hR.chg (Chg.of_below u.h) (fun g h1 h2 e => by have := hT.bel.size; omega)
        have hIu := hI.chg (Chg.of_below u.h) (fun g h1 h2 e => by omega)
        have fu : u.v.cell? ⟨g, i * 4 + 3, none⟩ = some (.int .i64 cN) := (u.h.cell (p := ⟨g, i * 4 + 3, none⟩) hgl).trans f3
        have ffu : u.v.frozen? ⟨g, i * 4 + 3, none⟩ = false := (u.h.frozen (p := ⟨g, i * 4 + 3, none⟩) hgl).trans (ff _)
        have hcs : Chg (fun j => j = g) u.v (u.v.setCell ⟨g, i * 4 + 3, none⟩ (.int .i64 77)) := (Chg.refl (fun j => j = g) u.v).setCell ⟨g, i * 4 + 3, none⟩ _ (fun _ => rfl)
        have hTs := hTu.chg hcs (fun j hj => by
          subst hj
          refine ⟨fun e => ?_, fun e => ?_, by omega⟩
          · rcases e with e | e
            · omega
            · rcases hX1' _ e with h | h
              · exact h
              · omega
          · rcases e with e | e
            · omega
            · rcases hX2' _ e with h | h
              · exact h
              · omega)
        have hRs := hRu.chg hcs (fun j h1 h2 e => by omega)
        have hIs := hset.out u.v (.int .i64 77) hIu
        have hc6s := Nat.le_trans h6r (Nat.le_trans u.h.size hcs.size)
        clear hT hR hI hTu hRu hIu hcs e0 e1 e2 e3 f0 f1 f2 f3 q0 q1 q2 q3 p0 p1' p2' p3 ff
        go_wp2_with fail
        go_roundw
        case rel => exact ⟨i + 1, by omega, by go_num, hTs, hRs, hIs, hc6s⟩
        case measure => simp [intOf]; omega
      · obtain ⟨wr1, hwr1⟩ : ∃ wr1, wr1 = wr := ⟨_, rfl⟩
        subst hwr1
        clear hI
        go_wp2_with fail
        go_loopw [14] (fun x14 wr => ∃ i : Nat, i ≤ nb ∧ x14 = .int .i64 i ∧ Two w5 wr (w.heap.size + 1) w3.heap.size w4.heap.size X1 g1 p1 mD w4.heap.size w5.heap.size X2 g2 p2 mD ops (bl.length + m + m) 1048576 ∧ RowB wr bo bl i W1s w3.heap.size) (fun x14 _ => nb - (intOf x14).toNat)
        case atStart => exact ⟨0, Nat.zero_le _, rfl, hT, hR⟩
        case round =>
          clear hT hR
          obtain ⟨j, hjm, rfl, hT, hR⟩ := hrel
          by_cases hj : j < nb
          · have hjx : j < bl.length := by rw [← hnb.out]; exact hj
            obtain ⟨g, rfl, hg1, hg2, f0, f1, f2, f3, ff, hgl, hset⟩ := hR.at' hjx (Nat.le_refl j)
            have fg := ff (j * 4 + 3)
            have hcs : Chg (fun j => j = g) wr (wr.setCell ⟨g, j * 4 + 3, none⟩ (.int .i64 55)) := (Chg.refl (fun j => j = g) wr).setCell ⟨g, j * 4 + 3, none⟩ _ (fun _ => rfl)
            have hTs := hT.chg hcs (fun j hj => by
              subst hj
              refine ⟨fun e => ?_, fun e => ?_, by omega⟩
              · have h := hT.gx.foot_ge e; omega
              · have h := hT.gy.foot_ge e; omega)
            have hRs := hset wr (.int .i64 55) hR
            clear hT hR hcs hset f0 f1 f2 ff
            go_wp2_with fail
            go_roundw
            case rel => exact ⟨j + 1, by omega, by go_num, hTs, hRs⟩
            case measure => simp [intOf]; omega
          · obtain ⟨wr2, hwr2⟩ : ∃ wr2, wr2 = wr := ⟨_, rfl⟩
            subst hwr2
            have hDv := dlv_any 0 0 hT.gx (by omega) (by have := hnb.out; omega)
            replace hDv := Lib.hid hDv
            clear hR
            go_wp2_with fail
            refine hDv.out.mono ?_
            rintro e w10 ⟨rfl, hcD, hGD⟩
            obtain ⟨Y1, hY1, hT10⟩ := hT.doX (Nat.le_add_right _ _) (DoP.of_dlv hcD hGD)
            obtain ⟨mE, hmE⟩ : ∃ mE, mE = dlvM ops mD 0 0 := ⟨_, rfl⟩
            rw [← hmE] at hT10
            have hmEn : 1 ≤ mE.n := hT10.gx.n1
            have hDv2 := dlv_any 0 0 hT10.gy (by omega) (by have := hnb.out; omega)
            rw [← hmE] at hDv2
            replace hDv2 := Lib.hid hDv2
            replace hmE := Lib.hid hmE
            clear hDv hT hcD hGD
            dsimp only
            go_wp2_with fail
            refine hDv2.out.mono ?_
            rintro e w11 ⟨rfl, hcD, hGD⟩
            obtain ⟨Y2, hY2, hT11⟩ := hT10.doY (Nat.le_add_right _ _) (DoP.of_dlv hcD hGD)
            have hmost := n_most hT11.gx.ok
            rw [← hn.out] at hmost
            have hvv : (ud != ud) = false := by simp
            clear hDv2 hT10 hcD hGD
            dsimp only
            go_wp2_with fail
            go_loopw [15] (fun x15 wr => ∃ i : Nat, i ≤ n ∧ x15 = .int .i64 i ∧ Two w5 wr (w.heap.size + 1) w3.heap.size w4.heap.size Y1 g1 p1 mE w4.heap.size w5.heap.size Y2 g2 p2 mE ops (bl.length + m + m + 1048576 + 1048576) 1048576) (fun x15 _ => n - (intOf x15).toNat)
            case atStart => exact ⟨0, Nat.zero_le _, rfl, hT11⟩
            case round =>
              clear hT11
              obtain ⟨i, hin, rfl, hT⟩ := hrel
              have hXr := hX5.below hT.bel (by omega)
              have x0 := hXr.cellAt (i := 0) (v := .slice ao n cap) rfl
              by_cases hi : i < n
              · have hF1 := gfront_any 0 i hT.gx (by have := hnb.out; omega)
                replace hF1 := Lib.hid hF1
                go_wp2_with fail
                refine hF1.out.mono ?_
                rintro e w12 ⟨hb12, hgd, _⟩
                obtain ⟨cs1, v1, f1, rfl, hc1, hn1, ho1, hi1⟩ := hgd ⟨by omega, by omega⟩
                have hT12 := hT.below hb12
                have hF2 := gfront_any 0 i hT12.gy (by have := hnb.out; omega)
                replace hF2 := Lib.hid hF2
                clear hF1 hgd
                dsimp only
                go_wp2_with fail
                refine hF2.out.mono ?_
                rintro e w13 ⟨hb13, hgd, _⟩
                obtain ⟨cs2, v2, f2, rfl, hc2, hn2, ho2, hi2⟩ := hgd ⟨by omega, by omega⟩
                have hT13 := hT12.below hb13
                have hff : f1 = f2 := fronts_same hn1 hn2 (hc1.trans hc2.symm) hi1 hi2
                subst hff
                have hsm := sameTimes_eq ho1 hb13 ho2
                replace hsm := Lib.hid hsm
                clear hF2 hgd hi1 hi2 ho1 ho2 hc1 hc2 hT hT12 hXr x0
                dsimp only
                go_wp2_with fail
                refine hsm.out.mono ?_
                rintro e w14 ⟨rfl, hb14⟩
                have hT14 := hT13.below hb14
                clear hT13 hsm
                dsimp only
                go_wp2_with fail
                go_roundw
                case rel => exact ⟨i + 1, by omega, by go_num, hT14⟩
                case measure => simp [intOf]; omega
              · have hbE := hbel5.trans (hT.bel.mono (Nat.le_succ _))
                obtain ⟨wr3, hwr3⟩ : ∃ wr3, wr3 = wr := ⟨_, rfl⟩
                subst hwr3
                clear hT
                go_wp2_with fail
                refine (do_nil 0 _ _).mono ?_
                rintro e w' ⟨rfl, hww⟩
                rw [hww]
                clear hww w'
                dsimp only
                go_wp2_with fail
                refine (dlv_nil 0 0 _).mono ?_
                rintro e w' ⟨rfl, hww⟩
                rw [hww]
                clear hww w'
                dsimp only
                go_wp2_with fail
                refine (wait_nil 0 0 _).mono ?_
                rintro e w' ⟨rfl, hww⟩
                rw [hww]
                clear hww w'
                dsimp only
                go_wp2_with fail
                refine (gdone_nil 0 ⟨0, ⟨0, 0⟩⟩ _).mono ?_
                rintro e w99 ⟨rfl, hb99⟩
                have hbZ := (hbE).trans (hb99.mono (Below.size hbE))
                clear hb99
                dsimp only
                go_wp2_with fail
                refine (gfront_nil 0 0 _).mono ?_
                rintro e w' ⟨rfl, hww⟩
                rw [hww]
                clear hww w'
                dsimp only
                go_wp2_with fail
                refine (true_nil _).mono ?_
                rintro e w' ⟨rfl, hww⟩
                rw [hww]
                clear hww w'
                dsimp only
                go_wp2_with fail
                go_ret
                exact ⟨rfl, hbZ⟩
  · have he := hbadx hge
    obtain ⟨ge, hge2⟩ : ∃ ge, ge = newGE ops k bl := ⟨_, rfl⟩
    rw [← hge2] at he hge
    replace hge2 := Lib.hid hge2
    subst he
    have f1 : (ge == 0) = false := by simpa using hge
    dsimp only
    go_wp2_with fail
    refine hNy.out.mono ?_
    rintro e w5 ⟨hb45, hbady, _⟩
    have he := hbady (by rw [← hge2.out]; exact hge)
    rw [← hge2.out] at he
    subst he
    have hbel5 := hbel4.trans (hb45.mono hbel4.size)
    clear hbadx hgoodx hNy hbady hge hown4 hbform hX4 hb34 hb45 x0 x1 x2 hown3
    dsimp only
    go_wp2_with (at_builtin; refine Shut.out ?kc)
    unfold Shut
    have hown0 : OwnL encK (w5.alloc (.cells #[] 57)) w5.heap.size 57 4 (.slice (some ⟨w5.heap.size, 0, none⟩) 0 0) [] := OwnL.of_blk (xs := []) (cap := 0) (Blk.new w5 #[] 57) (Nat.le_refl _) (Nat.le_refl 0) (by unfold maxLen; omega) rfl rfl rfl
    have hii2 : SlA w.heap.size 4 (fun _ cs x => cs = encK x) (w5.alloc (.cells #[] 57)) la lc l := hl.imp (hbel5.trans ((below_allocJ w5 _).mono hbel5.size)) (Nat.le_refl _) (fun cs x _ h => h.1)
    refine wpList_app_sla (xs := []) (ys := l) (enc := encK) (base := w5.heap.size) _ rfl _ _ 25 rfl Try.underlying25 hiK hK0 hK1 hK2 rfl (by decide) rfl hown0 (by show Value.slice la m lc = _; rw [hm.out]) hii2 encK_len encK_one (by rw [← hm.out]; unfold maxLen; simp; omega) (by rw [← hm.out]; simp; omega) (by simp) (fun v6 w6 hown6 hgr6 => ?_)
    have hb56 : Below w5.heap.size w5 w6 := (below_allocJ w5 (.cells #[] 57)).grown hgr6 (by simp) (fun g hg => by simp [Act.eval, Value.ownBlock] at hg; omega)
    have hbE := hbel5.trans (hb56.mono hbel5.size)
    clear hown0 hii2 hgr6 hown6 hb56 hbel5
    go_wp2_with fail
    refine (do_nil 0 _ _).mono ?_
    rintro e w' ⟨rfl, hww⟩
    rw [hww]
    clear hww w'
    dsimp only
    go_wp2_with fail
    refine (dlv_nil 0 0 _).mono ?_
    rintro e w' ⟨rfl, hww⟩
    rw [hww]
    clear hww w'
    dsimp only
    go_wp2_with fail
    refine (wait_nil 0 0 _).mono ?_
    rintro e w' ⟨rfl, hww⟩
    rw [hww]
    clear hww w'
    dsimp only
    go_wp2_with fail
    refine (gdone_nil 0 ⟨0, ⟨0, 0⟩⟩ _).mono ?_
    rintro e w99 ⟨rfl, hb99⟩
    have hbZ := (hbE).trans (hb99.mono (Below.size hbE))
    clear hb99
    dsimp only
    go_wp2_with fail
    refine (gfront_nil 0 0 _).mono ?_
    rintro e w' ⟨rfl, hww⟩
    rw [hww]
    clear hww w'
    dsimp only
    go_wp2_with fail
    refine (true_nil _).mono ?_
    rintro e w' ⟨rfl, hww⟩
    rw [hww]
    clear hww w'
    dsimp only
    go_wp2_with fail
    go_ret
    exact ⟨rfl, hbZ⟩
end Go.Proofs.Ytjmbafcpbagpdaa
