/- Model: the walk of ModelOrders. -/
import Derived.Test.YtbianedgogdeeaaMx
namespace Go.Proofs.Ytbianedgogdeeaa
open Go.RowKit Go.Maps Fold Go.Lib
attribute [local go_sem] Oper.semAt_some
set_option linter.unusedVariables false
set_option linter.unusedSimpArgs false

theorem tmod_u64 (a : Int) (m : Nat) (hm : 0 < m) : ∃ r : Nat, r < m ∧ (IntKind.u64.wrap a).tmod m = r := by
  have h0 : 0 ≤ IntKind.u64.wrap a := by
    have : IntKind.u64.wrap a = a % 18446744073709551616 := rfl
    rw [this]
    exact Int.emod_nonneg _ (by decide)
  refine ⟨((IntKind.u64.wrap a).tmod m).toNat, ?_, ?_⟩
  · have h1 := Int.tmod_lt_of_pos (IntKind.u64.wrap a) (show (0 : Int) < m by omega)
    have h2 := Int.tmod_nonneg (m : Int) h0
    omega
  · have h2 := Int.tmod_nonneg (m : Int) h0
    omega
theorem u64_in {a : Int} (h0 : 0 ≤ a) (h1 : a < 18446744073709551616) : IntKind.u64.wrap a = a := by
  have : IntKind.u64.wrap a = a % 18446744073709551616 := rfl
  rw [this, Int.emod_eq_of_lt h0 h1]

theorem chg_putD {g i : Nat} (w : World) (a b c d e : Value) (T : Nat) (h : T = T) :
    Chg (fun q => q = g) w (((((w.setCell ⟨g, i * 5, none⟩ a).setCell ⟨g, i * 5 + 1, none⟩ b).setCell ⟨g, i * 5 + 2, none⟩ c).setCell ⟨g, i * 5 + 3, none⟩ d).setCell ⟨g, i * 5 + 4, none⟩ e) := by
  have h1 := (Chg.refl (fun q => q = g) w).setCell ⟨g, i * 5, none⟩ a (fun _ => rfl)
  have h2 := h1.setCell ⟨g, i * 5 + 1, none⟩ b (fun _ => rfl)
  have h3 := h2.setCell ⟨g, i * 5 + 2, none⟩ c (fun _ => rfl)
  have h4 := h3.setCell ⟨g, i * 5 + 3, none⟩ d (fun _ => rfl)
  exact h4.setCell ⟨g, i * 5 + 4, none⟩ e (fun _ => rfl)

set_option maxRecDepth 100000 in
set_option maxHeartbeats 4000000 in
theorem morders_walk (ops : List TOp) (recs : List TRecord) (ts : List Int) (ga ra ta : Option Addr) (gcap rcap tcap : Nat) (w : World) (hx : SlA w.heap.size 7 (ROp w.heap.size) w ga gcap ops) (hr : SlA w.heap.size 5 (RRecord w.heap.size) w ra rcap recs) (ht : SlA w.heap.size 1 (RI .i64) w ta tcap ts)
    (hreach : recs.length * 48 ≤ 140737488351232) :
    Calls Try.prog 5 #[.agg #[.slice ga ops.length gcap], .slice ra recs.length rcap, .slice ta ts.length tcap] w fun e w' => e = .returned (.bool true) ∧ Below w.heap.size w w' := by
  obtain ⟨iD, hiD, hD0, hD1, hD2⟩ := partsD
  obtain ⟨R, hR⟩ : ∃ R, R = runM ops [] recs := ⟨_, rfl⟩
  have hrun := fun W (hW : Below w.heap.size w W) => run_any ops [] recs ga none ra gcap 0 rcap w.heap.size W hW.size (imp_ops hx hW) (SlA.nil _ _ _ _) (hr.imp hW (Nat.le_refl _) (fun _ _ _ h => h.imp hW (Nat.le_refl _))) (fun l hl => by cases hl) (fun l hl => by cases hl)
  have hrun2 : ∀ W, Below w.heap.size w W → ∀ (cur : List TRecord) (base : Nat) (v : Value), OwnD W base v cur → cur.Perm recs → Calls Try.prog 10 #[.agg #[.slice ga ops.length gcap], .agg #[.slice none 0 0], v] W (RunPost W R) := fun W hW cur base v ho hp => by
    obtain ⟨ao, cap, he, hs⟩ := own_recs ho (fun r hr' => (recs_sla hr).2 r (hp.mem_iff.1 hr'))
    have h := run_any ops [] cur ga none ao gcap 0 cap W.heap.size W (Nat.le_refl _) ((imp_ops hx hW).imp (Below.refl _ _) hW.size (fun _ _ _ h => h.imp (Below.refl _ _) hW.size)) (SlA.nil _ _ _ _) hs (fun l hl => by cases hl) (fun l hl => by cases hl)
    rw [runM_perm hp, ← hR, ← he] at h
    exact h
  rw [← hR] at hrun
  obtain ⟨n, hn⟩ : ∃ n, n = recs.length := ⟨_, rfl⟩
  obtain ⟨tl, htl⟩ : ∃ tl, tl = ts.length := ⟨_, rfl⟩
  obtain ⟨go, hgo⟩ : ∃ go, go = ops.length := ⟨_, rfl⟩
  have htlen := ht.len
  rw [← htl] at htlen
  rw [← hn, ← hgo] at hrun
  rw [← hgo] at hrun2
  rw [← hn] at hreach
  rw [← hn, ← htl, ← hgo]
  rw [show ([] : ST).length = 0 from rfl] at hrun
  obtain ⟨hrs, hwf⟩ := recs_sla hr
  have hn63 : n ≤ 9223372036854775807 := by omega
  replace hn := Lib.hid hn
  replace htl := Lib.hid htl
  replace hgo := Lib.hid hgo
  replace hR := Lib.hid hR
  replace hwf := Lib.hid hwf
  replace hrun2 := Lib.hid hrun2
  go_enter Try.func5, Try.ntmps5
  go_upto_region 1 with fail
  refine Code.wp_world ?_
  intro w0 hw0
  have hb0 : Below w.heap.size w w0 := by rw [hw0]; exact belowAlloc _ _
  have hG0 : Blk w0 w.heap.size #[.slice ga go gcap] 24 := by rw [hw0]; exact Blk.new _ _ _
  obtain ⟨gb, hgb⟩ : ∃ gb, gb = w.heap.size := ⟨_, rfl⟩
  rw [← hgb] at hG0 ⊢
  have hkn := mknown_any w0
  replace hgb := Lib.hid hgb
  replace hkn := Lib.hid hkn
  clear hw0
  go_wp2_with fail
  refine hkn.out.mono ?_
  rintro e w1 ⟨rfl, hb1⟩
  have hG1 := hG0.below hb1 hG0.lt
  have hbw1 := hb0.trans (hb1.mono hb0.size)
  have g1 := hG1.cellAt (i := 0) (v := .slice ga go gcap) rfl
  have hrun1 := hrun w1 hbw1
  replace hrun1 := Lib.hid hrun1
  clear hkn hG0 hb0 hb1 hrun
  dsimp only
  go_wp2_with (go_at_call 10; refine Shut.out ?kr)
  unfold Shut
  refine hrun1.out.mono ?_
  intro e w2 hp2
  obtain ⟨la, lac, sa, sac, rfl, hL2, hS2, hb2⟩ := hp2.read
  have hG2 := hG1.below hb2 hG1.lt
  have hbw2 := hbw1.trans (hb2.mono hbw1.size)
  obtain ⟨nl, hnl⟩ : ∃ nl, nl = R.1.length := ⟨_, rfl⟩
  obtain ⟨ns, hns⟩ : ∃ ns, ns = R.2.1.length := ⟨_, rfl⟩
  obtain ⟨er, her⟩ : ∃ er, er = R.2.2 := ⟨_, rfl⟩
  rw [← hnl, ← hns, ← her]
  replace hnl := Lib.hid hnl
  replace hns := Lib.hid hns
  replace her := Lib.hid her
  clear hp2 hb2 hrun1 hbw1 hG1 g1
  dsimp only
  go_upto_region 4 with fail
  refine Code.wp_world ?_
  intro w3 hw3
  have hb3 : Below w2.heap.size w2 w3 := by rw [hw3]; exact belowAlloc _ _
  have hZ3 : Blk w3 w2.heap.size #[.slice sa ns sac] 27 := by rw [hw3]; exact Blk.new _ _ _
  have hL3 := hL2.imp' hb3 hb3.size
  have hS3 := hS2.imp' hb3 hb3.size
  have hG3 := hG2.below hb3 hG2.lt
  have hbw3 := hbw2.trans (hb3.mono hbw2.size)
  obtain ⟨zb, hzb⟩ : ∃ zb, zb = w2.heap.size := ⟨_, rfl⟩
  rw [← hzb] at hZ3 ⊢
  replace hzb := Lib.hid hzb
  clear hw3 hL2 hS2 hG2 hbw2 hb3
  go_wp2_with (at_builtin; refine Shut.out ?kap)
  unfold Shut
  have hbA := belowAlloc w3 (.cells #[] 47)
  have hrs4 := hrs.imp (hbw3.trans (hbA.mono hbw3.size)) (Nat.le_refl _) (E' := fun _ cs x => cs = encD x) (fun _ _ _ h => h)
  refine wpList_app_sla (xs := []) (ys := recs) (enc := encD) (base := w3.heap.size) _ rfl _ _ 28 rfl Try.underlying28 hiD hD0 hD1 hD2 rfl (by decide) rfl (ownEmpty w3 5 47) (by show Value.slice ra n rcap = _; rw [hn.out]) hrs4 encD_len encD_one (by have := hn.out; unfold maxLen; simp; omega) (by have := hn.out; simp; omega) (by simp) (fun v4 w4 hown4 hgr4 => ?_)
  rw [List.nil_append] at hown4
  have hb4 : Below w3.heap.size w3 w4 := hbA.grown hgr4 (by simp) (fun g hg => by simp [Act.eval, Value.ownBlock] at hg; omega)
  clear hbA hrs4 hgr4
  obtain ⟨ra4, rc4, rfl, _, _, _⟩ := hown4.slice
  rw [← hn.out] at hown4 ⊢
  go_wp2_with fail
  go_loopw [11] (fun x11 wr => ∃ (k : Nat) (cur : List TRecord), k ≤ tl ∧ x11 = .int .i64 k ∧ OwnD wr w3.heap.size (.slice ra4 n rc4) cur ∧ cur.Perm recs ∧ Below w3.heap.size w3 wr) (fun x11 _ => tl - (intOf x11).toNat)
  case atStart => exact ⟨0, recs, Nat.zero_le _, rfl, hown4, .refl _, hb4⟩
  case round =>
    clear hown4 hb4
    obtain ⟨k, cur, hk, rfl, hown, hperm, hbr⟩ := hrel
    have hbw := hbw3.trans (hbr.mono hbw3.size)
    have hcl : cur.length = n := by rw [hperm.length_eq, hn.out]
    by_cases hstep : k < tl ∧ 0 < n
    · obtain ⟨hkt, hn1⟩ := hstep
      have d1 : decide ((k : Int) < (tl : Int)) = true := by simp; omega
      have d2 : decide ((0 : Int) < (n : Int)) = true := by simp; omega
      obtain ⟨tb, toff, rfl, htb, _⟩ := ht.addr (by have := htl.out; omega)
      obtain ⟨cs, _, hc, rfl, _⟩ := ht.get k (by rw [← htl.out]; exact hkt)
      have t0 := (hbw.cell (p := ⟨tb, toff + k, none⟩) htb).trans (by simpa using hc 0 (by omega))
      obtain ⟨t, ht1⟩ : ∃ t, t = ts[k]'(by rw [← htl.out]; exact hkt) := ⟨_, rfl⟩
      simp only [← ht1] at t0
      replace ht1 := Lib.hid ht1
      obtain ⟨r, hr1, hrr⟩ := tmod_u64 t n hn1
      have hwn : IntKind.u64.wrap (n : Int) = n := u64_in (by omega) (by omega)
      obtain ⟨y, hy1, hy⟩ : ∃ y : Nat, y < n ∧ (k : Int).tmod n = y := ⟨k % n, Nat.mod_lt _ hn1, by rw [Int.tmod_eq_emod_of_nonneg (by omega)]; omega⟩
      have hy2 : (k : Int) % (n : Int) = y := by rw [← hy, Int.tmod_eq_emod_of_nonneg (by omega)]
      have hnz : ((n : Int) == 0) = false := by simp; omega
      rcases hown.form with ⟨he, _⟩ | ⟨g, cap', cells, he, hBk, hl1, hl2, hl3, hl4, hl5, _⟩
      · simp only [Value.slice.injEq] at he
        omega
      · simp only [Value.slice.injEq] at he
        obtain ⟨rfl, -, rfl⟩ := he
        have hxl : r < cur.length := by omega
        have hyl : y < cur.length := by omega
        obtain ⟨cx, cf⟩ := own_cellD hown hxl
        obtain ⟨cy, _⟩ := own_cellD hown hyl
        obtain ⟨X, hX⟩ : ∃ X, X = cur[r] := ⟨_, rfl⟩
        obtain ⟨Y, hY⟩ : ∃ Y, Y = cur[y] := ⟨_, rfl⟩
        rw [← hX] at cx
        rw [← hY] at cy
        have x0 := cx 0 (by omega)
        have x1 := cx 1 (by omega)
        have x2 := cx 2 (by omega)
        have x3 := cx 3 (by omega)
        have x4 := cx 4 (by omega)
        simp only [encD, List.getElem?_cons_zero, List.getElem?_cons_succ, Nat.add_zero] at x0 x1 x2 x3 x4
        have hgl := hown.lt g rfl
        replace hX := Lib.hid hX
        replace hY := Lib.hid hY
        replace hcl := Lib.hid hcl
        clear cx cf cy hBk hl1 hl2 hl3 hl4 hl5 ht hc
        go_upto_region 11 with fail
        refine Code.wp_world ?_
        intro w5 hw5
        have hb5 : Below wr.heap.size wr w5 := by rw [hw5]; exact belowAlloc _ _
        have hK5 : Blk w5 wr.heap.size #[.int .i64 X.fProducer, .int .i64 X.fSeq, .int .i64 X.fPart, .string X.fKey, .int .u32 X.fVal] 47 := by rw [hw5]; exact Blk.new _ _ _
        have hown5 := hown.below hb5 (Nat.le_refl _)
        have hbr5 := hbr.trans (hb5.mono hbr.size)
        obtain ⟨z5, hz5⟩ : ∃ z5, z5 = wr.heap.size := ⟨_, rfl⟩
        rw [← hz5] at hK5 ⊢
        have hgz : ¬ z5 = g := by omega
        replace hz5 := Lib.hid hz5
        clear hw5 hb5 hown hbr x0 x1 x2 x3 x4 hbw
        obtain ⟨cy, cf⟩ := own_cellD hown5 hyl
        obtain ⟨cx, _⟩ := own_cellD hown5 hxl
        rw [← hY.out] at cy
        rw [← hX.out] at cx
        have y0 := cy 0 (by omega)
        have y1 := cy 1 (by omega)
        have y2 := cy 2 (by omega)
        have y3 := cy 3 (by omega)
        have y4 := cy 4 (by omega)
        have x0 := cx 0 (by omega)
        have x1 := cx 1 (by omega)
        have x2 := cx 2 (by omega)
        have x3 := cx 3 (by omega)
        have x4 := cx 4 (by omega)
        simp only [encD, List.getElem?_cons_zero, List.getElem?_cons_succ, Nat.add_zero] at x0 x1 x2 x3 x4 y0 y1 y2 y3 y4
        clear cx cy
        go_upto_region 12 with fail
        refine Code.wp_world ?_
        intro w6 hw6
        have hown6 := own_putD hown5 hxl Y
        rw [← hw6] at hown6
        have hc6 : Chg (fun q => q = g) w5 w6 := by rw [hw6]; exact chg_putD _ _ _ _ _ _ 0 rfl
        have hb6 : Below w3.heap.size w3 w6 := by rw [hw6]; exact below_putD hbr5 hgl.1 _ _ _ _ _
        have hK6 := hK5.chg hc6 hgz
        have hyl6 : y < (cur.set r Y).length := by rw [List.length_set]; exact hyl
        clear hw6 hc6 hK5 hown5 hbr5 x0 x1 x2 x3 x4 y0 y1 y2 y3 y4 cf
        obtain ⟨cz, cf⟩ := own_cellD hown6 hyl6
        obtain ⟨Z, hZ⟩ : ∃ Z, Z = (cur.set r Y)[y] := ⟨_, rfl⟩
        rw [← hZ] at cz
        replace hZ := Lib.hid hZ
        have z0 := cz 0 (by omega)
        have z1 := cz 1 (by omega)
        have z2 := cz 2 (by omega)
        have z3 := cz 3 (by omega)
        have z4 := cz 4 (by omega)
        simp only [encD, List.getElem?_cons_zero, List.getElem?_cons_succ, Nat.add_zero] at z0 z1 z2 z3 z4
        have k0 := hK6.cellAt (i := 0) (v := .int .i64 X.fProducer) rfl
        have k1 := hK6.cellAt (i := 1) (v := .int .i64 X.fSeq) rfl
        have k2 := hK6.cellAt (i := 2) (v := .int .i64 X.fPart) rfl
        have k3 := hK6.cellAt (i := 3) (v := .string X.fKey) rfl
        have k4 := hK6.cellAt (i := 4) (v := .int .u32 X.fVal) rfl
        clear cz
        go_upto_region 7 with fail
        refine Code.wp_world ?_
        intro w7 hw7
        have hown7 := own_putD hown6 hyl6 X
        rw [← hw7] at hown7
        have hb7 : Below w3.heap.size w3 w7 := by rw [hw7]; exact below_putD hb6 hgl.1 _ _ _ _ _
        have hp7 : ((cur.set r Y).set y X).Perm recs := by
          rw [hX.out, hY.out]
          exact (List.set_set_perm hxl hyl).trans hperm
        clear hw7 hown6 hb6 hK6 cf z0 z1 z2 z3 z4 k0 k1 k2 k3 k4
        go_wp2_with fail
        go_roundw
        case rel => exact ⟨k + 1, _, by omega, by go_num, hown7, hp7, hb7⟩
        case measure => simp [intOf]; omega
    · have hG := (hG3.below hbr hG3.lt)
      have hL := hL3.imp' hbr hbr.size
      have hS := hS3.imp' hbr hbr.size
      have hZ := hZ3.below hbr hZ3.lt
      have g4 := hG.cellAt (i := 0) (v := .slice ga go gcap) rfl
      have hrn := hrun2.out wr hbw cur w3.heap.size _ hown hperm
      replace hrn := Lib.hid hrn
      clear hown hperm hcl hrun2 hG3 hL3 hS3 hZ3 hbr hbw3 ht
      by_cases hkt : k < tl
      · have d1 : decide ((k : Int) < (tl : Int)) = true := by simp; omega
        have hn0 : n = 0 := by omega
        subst hn0
        go_wp2_with (go_at_call 10; refine Shut.out ?kx)
        unfold Shut
        refine hrn.out.mono ?_
        intro e w8 hp8
        obtain ⟨ma, mac, ta2, tac2, rfl, hM8, hT8, hb8⟩ := hp8.read
        have hL8 := hL.imp' hb8 hb8.size
        have hS8 := hS.imp' hb8 hb8.size
        have hZ8 := hZ.below hb8 hZ.lt
        have hbw8 := hbw.trans (hb8.mono hbw.size)
        rw [← hnl.out, ← hns.out, ← her.out]
        clear hp8 hb8 hrn hL hS hZ hG g4 hbw
        dsimp only
        go_upto_region 14 with fail
        refine Code.wp_world ?_
        intro w9 hw9
        have hb9 : Below w8.heap.size w8 w9 := by rw [hw9]; exact belowAlloc _ _
        have hY9 : Blk w9 w8.heap.size #[.slice ta2 ns tac2] 27 := by rw [hw9]; exact Blk.new _ _ _
        have hZ9 := hZ8.below hb9 hZ8.lt
        have hL9 := hL8.imp' hb9 hb9.size
        have hS9 := hS8.imp' hb9 hb9.size
        have hM9 := hM8.imp' hb9 hb9.size
        have hT9 := hT8.imp' hb9 hb9.size
        have hbw9 := hbw8.trans (hb9.mono hbw8.size)
        obtain ⟨yb, hyb⟩ : ∃ yb, yb = w8.heap.size := ⟨_, rfl⟩
        rw [← hyb] at hY9 ⊢
        replace hyb := Lib.hid hyb
        clear hw9 hb9 hZ8 hL8 hS8 hM8 hT8 hbw8
        have hsm := same_any R.1 R.1 la ma lac mac _ w9 (Nat.le_refl _) hL9 hM9
        have hsst := fun W (hW : Below w9.heap.size w9 W) => sameSt_any R.2.1 R.2.1 sa ta2 sac tac2 _ W (Nat.le_refl _) (hS9.imp' hW hW.size) (hT9.imp' hW hW.size)
        rw [decide_eq_true rfl, ← hnl.out] at hsm
        rw [stEq_self, ← hns.out] at hsst
        replace hsm := Lib.hid hsm
        replace hsst := Lib.hid hsst
        have hee : ((er : Int) == (er : Int)) = true := by simp
        clear hL9 hM9 hS9 hT9
        go_wp2_with (go_at_call 13; refine Shut.out ?kxp)
        unfold Shut
        refine hsm.out.mono ?_
        rintro e w10 ⟨rfl, hb10⟩
        have hY10 := hY9.below hb10 hY9.lt
        have hZ10 := hZ9.below hb10 hZ9.lt
        have y10 := hY10.cellAt (i := 0) (v := .slice ta2 ns tac2) rfl
        have z10 := hZ10.cellAt (i := 0) (v := .slice sa ns sac) rfl
        have hbw10 := hbw9.trans (hb10.mono hbw9.size)
        have hst10 := hsst.out w10 hb10
        replace hst10 := Lib.hid hst10
        clear hsm hsst hY9 hZ9 hb10 hbw9
        dsimp only
        go_wp2_with (go_at_call 14; refine Shut.out ?kxs)
        unfold Shut
        refine hst10.out.mono ?_
        rintro e w11 ⟨rfl, hb11⟩
        have hbw11 := hbw10.trans (hb11.mono hbw10.size)
        dsimp only
        go_wp2_with fail
        go_ret
        exact ⟨rfl, hbw11⟩
      · have d1 : decide ((k : Int) < (tl : Int)) = false := by simp; omega
        go_wp2_with (go_at_call 10; refine Shut.out ?ky)
        unfold Shut
        refine hrn.out.mono ?_
        intro e w8 hp8
        obtain ⟨ma, mac, ta2, tac2, rfl, hM8, hT8, hb8⟩ := hp8.read
        have hL8 := hL.imp' hb8 hb8.size
        have hS8 := hS.imp' hb8 hb8.size
        have hZ8 := hZ.below hb8 hZ.lt
        have hbw8 := hbw.trans (hb8.mono hbw.size)
        rw [← hnl.out, ← hns.out, ← her.out]
        clear hp8 hb8 hrn hL hS hZ hG g4 hbw
        dsimp only
        go_upto_region 14 with fail
        refine Code.wp_world ?_
        intro w9 hw9
        have hb9 : Below w8.heap.size w8 w9 := by rw [hw9]; exact belowAlloc _ _
        have hY9 : Blk w9 w8.heap.size #[.slice ta2 ns tac2] 27 := by rw [hw9]; exact Blk.new _ _ _
        have hZ9 := hZ8.below hb9 hZ8.lt
        have hL9 := hL8.imp' hb9 hb9.size
        have hS9 := hS8.imp' hb9 hb9.size
        have hM9 := hM8.imp' hb9 hb9.size
        have hT9 := hT8.imp' hb9 hb9.size
        have hbw9 := hbw8.trans (hb9.mono hbw8.size)
        obtain ⟨yb, hyb⟩ : ∃ yb, yb = w8.heap.size := ⟨_, rfl⟩
        rw [← hyb] at hY9 ⊢
        replace hyb := Lib.hid hyb
        clear hw9 hb9 hZ8 hL8 hS8 hM8 hT8 hbw8
        have hsm := same_any R.1 R.1 la ma lac mac _ w9 (Nat.le_refl _) hL9 hM9
        have hsst := fun W (hW : Below w9.heap.size w9 W) => sameSt_any R.2.1 R.2.1 sa ta2 sac tac2 _ W (Nat.le_refl _) (hS9.imp' hW hW.size) (hT9.imp' hW hW.size)
        rw [decide_eq_true rfl, ← hnl.out] at hsm
        rw [stEq_self, ← hns.out] at hsst
        replace hsm := Lib.hid hsm
        replace hsst := Lib.hid hsst
        have hee : ((er : Int) == (er : Int)) = true := by simp
        clear hL9 hM9 hS9 hT9
        go_wp2_with (go_at_call 13; refine Shut.out ?kyp)
        unfold Shut
        refine hsm.out.mono ?_
        rintro e w10 ⟨rfl, hb10⟩
        have hY10 := hY9.below hb10 hY9.lt
        have hZ10 := hZ9.below hb10 hZ9.lt
        have y10 := hY10.cellAt (i := 0) (v := .slice ta2 ns tac2) rfl
        have z10 := hZ10.cellAt (i := 0) (v := .slice sa ns sac) rfl
        have hbw10 := hbw9.trans (hb10.mono hbw9.size)
        have hst10 := hsst.out w10 hb10
        replace hst10 := Lib.hid hst10
        clear hsm hsst hY9 hZ9 hb10 hbw9
        dsimp only
        go_wp2_with (go_at_call 14; refine Shut.out ?kys)
        unfold Shut
        refine hst10.out.mono ?_
        rintro e w11 ⟨rfl, hb11⟩
        have hbw11 := hbw10.trans (hb11.mono hbw10.size)
        dsimp only
        go_wp2_with fail
        go_ret
        exact ⟨rfl, hbw11⟩
end Go.Proofs.Ytbianedgogdeeaa
