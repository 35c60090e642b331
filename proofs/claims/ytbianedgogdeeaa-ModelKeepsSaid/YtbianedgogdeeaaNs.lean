/- Model: the document's one: what comes of a pair at an operator of one input. -/
import Derived.Test.YtbianedgogdeeaaNo
import Derived.Laws.ResultCell
namespace Go.Proofs.Ytbianedgogdeeaa
open Go.RowKit Go.Maps Fold Go.Lib
attribute [local go_sem] Oper.semAt_some
set_option linter.unusedVariables false
set_option linter.unusedSimpArgs false

theorem results_ct {fn : Func} {p q : Tmp} {ty : TypeId} {P : Program} (h : fn.results = #[.cell p ty, .tmp q]) (tmps : Array Value) (w : World) (g : Nat) (u : Value)
    (hp : tmps.getD p undef = .pointer (some ⟨g, 0, none⟩)) (hl : (loadVar ty ⟨g, 0, none⟩).run P w = .ok u w) :
    (results fn tmps).run P w = .ok (.tuple #[u, tmps.getD q undef]) w := by
  have hp' : tmps[p]?.getD undef = .pointer (some ⟨g, 0, none⟩) := by simpa using hp
  simp [results, h, hp', asAddr, hl]
/-- An operator as it is handed on. -/
def opAgg (o : TOp) (ao : Option Addr) (cap : Nat) : Value := .agg #[.int .i64 o.fKind, .slice ao o.fIn.length cap, .int .i64 o.fArg, .int .u32 (o.fNum.toNat : Nat), .int .i64 (o.fRounds.toNat : Nat), .int .i64 o.fTest, .int .u32 (o.fLim.toNat : Nat)]
/-- What one answers. -/
def OnePost (o : TOp) (p : PR) (w : World) (e : Ending) (w' : World) : Prop :=
  ∃ (v : Nat) (ok : Bool), e = .returned (.tuple #[.agg #[.string p.1, .int .u32 (v : Nat)], .bool ok]) ∧ oneP o p = (if ok then some (p.1, v) else none) ∧ v < 4294967296 ∧ Below w.heap.size w w'

set_option maxRecDepth 100000 in
set_option maxHeartbeats 4000000 in
theorem rone_any (o : TOp) (p : PR) (ao : Option Addr) (cap : Nat) (w : World) (hn : o.fNum.toNat < 4294967296) (hl : o.fLim.toNat < 4294967296) (hR : o.fRounds.toNat ≤ 1000) (hv : p.2 < 4294967296) :
    Calls Try.prog 57 #[opAgg o ao cap, .agg #[.string p.1, .int .u32 (p.2 : Nat)]] w (OnePost o p w) := by
  unfold OnePost opAgg
  obtain ⟨m, hm⟩ : ∃ m, m = o.fIn.length := ⟨_, rfl⟩
  obtain ⟨num, hnum⟩ : ∃ num, num = o.fNum.toNat := ⟨_, rfl⟩
  obtain ⟨lim, hlim⟩ : ∃ lim, lim = o.fLim.toNat := ⟨_, rfl⟩
  obtain ⟨R, hRR⟩ : ∃ R, R = o.fRounds.toNat := ⟨_, rfl⟩
  obtain ⟨kind, hki⟩ : ∃ kind, kind = o.fKind := ⟨_, rfl⟩
  obtain ⟨arg, har⟩ : ∃ arg, arg = o.fArg := ⟨_, rfl⟩
  obtain ⟨test, hte⟩ : ∃ test, test = o.fTest := ⟨_, rfl⟩
  obtain ⟨pk, pv⟩ := p
  have hone : oneP o (pk, pv) = (if kind = 2 then some (pk, mapN arg num pv) else if kind = 7 then some (pk, loopV arg num test lim R pv) else if kind = 3 then (if testB arg num pv then some (pk, pv) else none) else some (pk, pv)) := by
    unfold oneP
    rw [hki, har, hnum, hte, hlim, hRR]
  dsimp only at hv ⊢
  rw [← hnum] at hn ⊢
  rw [← hlim] at hl ⊢
  rw [← hRR] at hR ⊢
  rw [← hm, ← hki, ← har, ← hte]
  obtain ⟨tgt, htgt⟩ : ∃ tgt, tgt = oneP o (pk, pv) := ⟨_, rfl⟩
  rw [← htgt] at hone ⊢
  clear htgt hm hnum hlim hRR hki har hte
  have hmap := fun v W hv => rmap_any arg num v W hn hv
  have htest := fun v W hv => rtest_any test lim v W hl hv
  have hlt := fun v hv => mapN_lt arg num v hn hv
  have htst : ∀ W, Calls Try.prog 71 #[.int .i64 arg, .int .u32 num, .int .u32 (pv : Nat)] W fun e W' => e = .returned (.bool (testB arg num pv)) ∧ W' = W := fun W => (rtest_any arg num pv W hn hv).mono (fun e W' h => ⟨h.1, h.2.symm⟩)
  replace hmap := Lib.hid hmap
  replace htest := Lib.hid htest
  replace hlt := Lib.hid hlt
  replace htst := Lib.hid htst
  replace hone := Lib.hid hone
  go_enter Try.func57, Try.ntmps57
  go_upto_region 1 with fail
  refine Code.wp_world ?_
  intro w1 hw1
  have hb1 : Below w.heap.size w w1 := by rw [hw1]; exact (by repeat (first | exact Below.refl _ _ | refine below_drewN ?_ _ | refine Below.drew ?_ | (refine Below.alloc ?_ (by simp; try omega) _)))
  have hO1 : Blk w1 w.heap.size #[.int .i64 kind, .slice ao m cap, .int .i64 arg, .int .u32 num, .int .i64 R, .int .i64 test, .int .u32 lim] 51 := by rw [hw1]; exact ((Blk.new _ _ _).alloc _).alloc _
  have hP1 : Blk w1 (w.heap.size + 1) #[.string pk, .int .u32 (pv : Nat)] 53 := by
    rw [hw1]
    have := (Blk.new (w.alloc (.cells #[.int .i64 kind, .slice ao m cap, .int .i64 arg, .int .u32 num, .int .i64 R, .int .i64 test, .int .u32 lim] 51)) #[.string pk, .int .u32 (pv : Nat)] 53).alloc (.cells #[.string ⟨#[]⟩, .int .u32 0] 53)
    rwa [World.size_alloc] at this
  have hR1 : Blk w1 (w.heap.size + 1 + 1) #[.string ⟨#[]⟩, .int .u32 0] 53 := by
    rw [hw1]
    have := Blk.new ((w.alloc (.cells #[.int .i64 kind, .slice ao m cap, .int .i64 arg, .int .u32 num, .int .i64 R, .int .i64 test, .int .u32 lim] 51)).alloc (.cells #[.string pk, .int .u32 (pv : Nat)] 53)) #[.string ⟨#[]⟩, .int .u32 0] 53
    rwa [World.size_alloc, World.size_alloc] at this
  obtain ⟨zo, hzo⟩ : ∃ zo, zo = w.heap.size := ⟨_, rfl⟩
  have hzw : w.heap.size ≤ zo := by omega
  rw [← hzo] at hO1 hP1 hR1 ⊢
  obtain ⟨zp, hzp⟩ : ∃ zp, zp = zo + 1 := ⟨_, rfl⟩
  rw [← hzp] at hP1 hR1 ⊢
  obtain ⟨zr, hzr⟩ : ∃ zr, zr = zp + 1 := ⟨_, rfl⟩
  rw [← hzr] at hR1 ⊢
  have n1 : zo ≠ zp := by omega
  have n2 : zp ≠ zr := by omega
  have n3 : zo ≠ zr := by omega
  have n4 : zr ≠ zp := by omega
  have n5 : zp ≠ zo := by omega
  have n6 : zr ≠ zo := by omega
  have hzpw : w.heap.size ≤ zp := by omega
  have hzrw : w.heap.size ≤ zr := by omega
  replace hzo := Lib.hid hzo
  replace hzp := Lib.hid hzp
  replace hzr := Lib.hid hzr
  have c0 := hO1.cellAt (i := 0) (v := .int .i64 kind) rfl
  have c2 := hO1.cellAt (i := 2) (v := .int .i64 arg) rfl
  have c3 := hO1.cellAt (i := 3) (v := .int .u32 num) rfl
  have c4 := hO1.cellAt (i := 4) (v := .int .i64 R) rfl
  have c5 := hO1.cellAt (i := 5) (v := .int .i64 test) rfl
  have c6 := hO1.cellAt (i := 6) (v := .int .u32 lim) rfl
  have p0 := hP1.cellAt (i := 0) (v := .string pk) rfl
  have p1 := hP1.cellAt (i := 1) (v := .int .u32 (pv : Nat)) rfl
  have pf := hP1.frozen 1
  have r0 := hR1.cellAt (i := 0) (v := .string ⟨#[]⟩) rfl
  have r1 := hR1.cellAt (i := 1) (v := .int .u32 0) rfl
  have rf0 := hR1.frozen 0
  have rf1 := hR1.frozen 1
  clear hw1
  by_cases k2 : kind = 2
  · have d2 : (kind == 2) = true := by simpa using k2
    have hone2 := hone.out
    rw [if_pos k2] at hone2
    obtain ⟨mv, hmv⟩ : ∃ mv, mv = mapN arg num pv := ⟨_, rfl⟩
    have hm1 := hmap.out pv w1 hv
    have hml := hlt.out pv hv
    rw [← hmv] at hm1 hml hone2
    replace hm1 := Lib.hid hm1
    replace hmv := Lib.hid hmv
    clear k2 hone
    go_wp2_with (go_at_call 70; refine hm1.out.mono ?_; rintro e w' ⟨rfl, rfl⟩; dsimp only)
    refine bodyPost_ret (results_ct rfl _ _ zr _ rfl (run_loadVar_row _ zr 53 _ _ (0, 0) _ (Blk.set (Blk.set (Blk.set_other hR1 n4 _) 0 _) 1 _) Try.underlying53 rfl (by kernel_rfl))) rfl ?_
    exact ⟨mv, true, rfl, hone2, hml, ((hb1.setCell hzpw _).setCell hzrw _).setCell hzrw _⟩
  · have d2 : (kind == 2) = false := by simpa using k2
    by_cases k3 : kind = 3
    · have d3 : (kind == 3) = true := by simpa using k3
      have hone2 := hone.out
      rw [if_neg k2, if_neg (by omega), if_pos k3] at hone2
      obtain ⟨b, hb⟩ : ∃ b, b = testB arg num pv := ⟨_, rfl⟩
      replace htst := htst.out
      rw [← hb] at hone2 htst
      replace htst := Lib.hid htst
      clear k2 k3 hone hb
      go_upto_region 5 with fail
      refine wp_region_quiet_tail 8 (by kernel_rfl) (by kernel_rfl) ?_
      simp only [List.take_succ_cons, List.take_zero, List.drop_succ_cons, List.drop_zero]
      repeat (go_big_quiet_step (first | (go_at_call 71; exact Calls.quiet_of_same (htst.out _)) | fail))
      refine wpQuiet_nil ?_
      rintro w8 ⟨m8, hm8⟩
      have hb8 : Below w.heap.size w w8 := by rw [hm8]; exact below_drewN hb1 m8
      have hR8 : Blk w8 zr #[.string ⟨#[]⟩, .int .u32 0] 53 := by rw [hm8]; exact hR1
      have r0 := hR8.cellAt (i := 0) (v := .string ⟨#[]⟩) rfl
      have r1 := hR8.cellAt (i := 1) (v := .int .u32 0) rfl
      have rf0 := hR8.frozen 0
      have rf1 := hR8.frozen 1
      clear hm8
      go_wp2_with fail
      refine bodyPost_ret (results_ct rfl _ _ zr _ rfl (run_loadVar_row _ zr 53 _ _ (0, 0) _ (Blk.set (Blk.set hR8 0 _) 1 _) Try.underlying53 rfl (by kernel_rfl))) rfl ?_
      exact ⟨pv, b, rfl, hone2, hv, (hb8.setCell hzrw _).setCell hzrw _⟩
    · have d3 : (kind == 3) = false := by simpa using k3
      by_cases k7 : kind = 7
      · have d7 : (kind == 7) = true := by simpa using k7
        have hone2 := hone.out
        rw [if_neg k2, if_pos k7] at hone2
        clear k2 k3 k7 hone
        go_wp2_with fail
        go_loopw [6] (fun x6 wr => ∃ (i u : Nat), i ≤ R ∧ x6 = .int .i64 i ∧ u < 4294967296 ∧ Blk wr zp #[.string pk, .int .u32 (u : Nat)] 53 ∧ Blk wr zr #[.string ⟨#[]⟩, .int .u32 0] 53 ∧ Blk wr zo #[.int .i64 kind, .slice ao m cap, .int .i64 arg, .int .u32 num, .int .i64 R, .int .i64 test, .int .u32 lim] 51 ∧ Below w.heap.size w wr ∧ Hid (tgt = some (pk, loopV arg num test lim (R - i) u))) (fun x6 _ => R - (intOf x6).toNat)
        case atStart => exact ⟨0, pv, Nat.zero_le _, rfl, hv, hP1, hR1, hO1, hb1, Lib.hid hone2⟩
        case round =>
          clear hone2 hP1 hR1 hO1 hb1 c0 c2 c3 c4 c5 c6 p0 p1 pf r0 r1 rf0 rf1 hv
          obtain ⟨i, u, hi, rfl, hv, hP1, hR1, hO1, hb1, ht⟩ := hrel
          have c2 := hO1.cellAt (i := 2) (v := .int .i64 arg) rfl
          have c3 := hO1.cellAt (i := 3) (v := .int .u32 num) rfl
          have c4 := hO1.cellAt (i := 4) (v := .int .i64 R) rfl
          have c5 := hO1.cellAt (i := 5) (v := .int .i64 test) rfl
          have c6 := hO1.cellAt (i := 6) (v := .int .u32 lim) rfl
          have p0 := hP1.cellAt (i := 0) (v := .string pk) rfl
          have p1 := hP1.cellAt (i := 1) (v := .int .u32 (u : Nat)) rfl
          have pf := hP1.frozen 1
          have r0 := hR1.cellAt (i := 0) (v := .string ⟨#[]⟩) rfl
          have r1 := hR1.cellAt (i := 1) (v := .int .u32 0) rfl
          have rf0 := hR1.frozen 0
          have rf1 := hR1.frozen 1
          by_cases hin : i < R
          · have d1 : decide ((i : Int) < (R : Int)) = true := by simp; omega
            obtain ⟨mv, hmv⟩ : ∃ mv, mv = mapN arg num u := ⟨_, rfl⟩
            have hm1 := hmap.out u wr hv
            have hml := hlt.out u hv
            rw [← hmv] at hm1 hml
            have ht1 := fun W => htest.out mv W hml
            have hstep : loopV arg num test lim (R - i) u = if testB test lim mv then mv else loopV arg num test lim (R - (i + 1)) mv := by
              rw [show R - i = (R - (i + 1)) + 1 by omega, loopV, ← hmv]
            have ht2 := ht.out
            rw [hstep] at ht2
            have hP2 : Blk (wr.setCell ⟨zp, 1, none⟩ (.int .u32 (mv : Nat))) zp #[.string pk, .int .u32 (mv : Nat)] 53 := Blk.set hP1 1 _
            have hR2 : Blk (wr.setCell ⟨zp, 1, none⟩ (.int .u32 (mv : Nat))) zr #[.string ⟨#[]⟩, .int .u32 0] 53 := Blk.set_other hR1 n4 _
            have hO2 : Blk (wr.setCell ⟨zp, 1, none⟩ (.int .u32 (mv : Nat))) zo #[.int .i64 kind, .slice ao m cap, .int .i64 arg, .int .u32 num, .int .i64 R, .int .i64 test, .int .u32 lim] 51 := Blk.set_other hO1 n1 _
            have hb2 := hb1.setCell (p := ⟨zp, 1, none⟩) hzpw (.int .u32 (mv : Nat))
            clear hstep ht
            replace hm1 := Lib.hid hm1
            replace hmv := Lib.hid hmv
            cases hb : testB test lim mv with
            | true =>
              rw [hb] at ht1 ht2
              rw [if_pos rfl] at ht2
              replace ht1 := Lib.hid ht1
              clear hb hP2 hO2
              go_wp2_with (first | (go_at_call 70; refine hm1.out.mono ?_; rintro e w' ⟨rfl, rfl⟩; dsimp only) | (go_at_call 71; refine (ht1.out _).mono ?_; rintro e w' ⟨rfl, rfl⟩; dsimp only))
              refine bodyPost_ret (results_ct rfl _ _ zr _ rfl (run_loadVar_row _ zr 53 _ _ (0, 0) _ (Blk.set (Blk.set hR2 0 _) 1 _) Try.underlying53 rfl (by kernel_rfl))) rfl ?_
              exact ⟨mv, true, rfl, ht2, hml, (hb2.setCell hzrw _).setCell hzrw _⟩
            | false =>
              rw [hb] at ht1 ht2
              rw [if_neg (by simp)] at ht2
              replace ht1 := Lib.hid ht1
              replace ht2 := Lib.hid ht2
              clear hb
              go_wp2_with (first | (go_at_call 70; refine hm1.out.mono ?_; rintro e w' ⟨rfl, rfl⟩; dsimp only) | (go_at_call 71; refine (ht1.out _).mono ?_; rintro e w' ⟨rfl, rfl⟩; dsimp only))
              go_roundw
              case rel => exact ⟨i + 1, mv, by omega, by go_num, hml, hP2, hR2, hO2, hb2, ht2⟩
              case measure => simp [intOf]; omega
          · have d1 : decide ((i : Int) < (R : Int)) = false := by simp; omega
            have ht2 := ht.out
            rw [show R - i = 0 by omega] at ht2
            have ht3 : tgt = some (pk, u) := ht2
            clear ht ht2
            go_wp2_with fail
            refine bodyPost_ret (results_ct rfl _ _ zr _ rfl (run_loadVar_row _ zr 53 _ _ (0, 0) _ (Blk.set (Blk.set hR1 0 _) 1 _) Try.underlying53 rfl (by kernel_rfl))) rfl ?_
            exact ⟨u, true, rfl, ht3, hv, (hb1.setCell hzrw _).setCell hzrw _⟩
      · have d7 : (kind == 7) = false := by simpa using k7
        have hone2 := hone.out
        rw [if_neg k2, if_neg k7, if_neg k3] at hone2
        clear k2 k3 k7 hone
        go_wp2_with fail
        refine bodyPost_ret (results_ct rfl _ _ zr _ rfl (run_loadVar_row _ zr 53 _ _ (0, 0) _ (Blk.set (Blk.set hR1 0 _) 1 _) Try.underlying53 rfl (by kernel_rfl))) rfl ?_
        exact ⟨pv, true, rfl, hone2, hv, (hb1.setCell hzrw _).setCell hzrw _⟩
end Go.Proofs.Ytbianedgogdeeaa

/- Model: the document's op: source, union. -/
namespace Go.Proofs.Ytbianedgogdeeaa
open Go.RowKit Go.Maps Fold Go.Lib
attribute [local go_sem] Oper.semAt_some
set_option linter.unusedVariables false
set_option linter.unusedSimpArgs false

/-- What op answers. -/
def ROPost (out keep : PRS) (w : World) (e : Ending) (w' : World) : Prop :=
  ∃ v1 v2 l, e = .returned (.tuple #[v1, v2]) ∧ OwnR w' w.heap.size v1 l ∧ l.Perm out ∧ OwnR w' w.heap.size v2 keep ∧ Below w.heap.size w w'
theorem src_step {o : TOp} {recs : List TRecord} {i : Nat} (hi : i < recs.length) : (recs.take (i + 1)).filterMap (srcP o) = match srcP o recs[i] with | some p => (recs.take i).filterMap (srcP o) ++ [p] | none => (recs.take i).filterMap (srcP o) := by
  rw [List.take_succ_eq_append_getElem hi, List.filterMap_append]
  cases h : srcP o recs[i] with
  | none => simp [h]
  | some p => simp [h]

set_option maxRecDepth 100000 in
set_option maxHeartbeats 4000000 in
theorem rop_src (o : TOp) (hk : o.fKind = 1) (recs : List TRecord) (a b kept : PRS) (ao ia ko ra : Option Addr) (cap ic im kcap km rcap B : Nat) (w : World) (hB : B ≤ w.heap.size) (hr : SlA B 5 (RRecord B) w ra rcap recs) (h0 : -1 ≤ o.fArg) (hz : recs.length ≤ 512) :
    Calls Try.prog 37 #[opAgg o ao cap, .slice ia im ic, .slice ko km kcap, .slice ra recs.length rcap] w (ROPost (opOut o a b kept recs) (opKeep o a kept) w) := by
  have hout : opOut o a b kept recs = recs.filterMap (srcP o) := by unfold opOut; rw [if_pos hk]
  have hkeep : opKeep o a kept = [] := opKeep_no (by omega) a kept
  rw [hout, hkeep]
  have hst := fun i hi => src_step (o := o) (recs := recs) (i := i) hi
  obtain ⟨f, hf⟩ : ∃ f, f = srcP o := ⟨_, rfl⟩
  have hfr : ∀ r, f r = if o.fArg = -1 ∨ r.fPart = o.fArg then some (r.fKey, r.fVal.toNat) else none := fun r => by rw [hf]; rfl
  rw [← hf] at hst ⊢
  clear hf
  obtain ⟨iR, hiR, hR0, hR1, hR2⟩ := partsR
  unfold opAgg
  obtain ⟨kind, ins, arg, num, rounds, test, lim⟩ := o
  dsimp only at *
  subst hk
  obtain ⟨il, hil⟩ : ∃ il, il = ins.length := ⟨_, rfl⟩
  rw [← hil]
  obtain ⟨nn, hnn⟩ : ∃ nn, nn = num.toNat := ⟨_, rfl⟩
  obtain ⟨R, hR⟩ : ∃ R, R = rounds.toNat := ⟨_, rfl⟩
  obtain ⟨ll, hll⟩ : ∃ ll, ll = lim.toNat := ⟨_, rfl⟩
  rw [← hnn, ← hR, ← hll]
  replace hil := Lib.hid hil
  replace hnn := Lib.hid hnn
  replace hR := Lib.hid hR
  replace hll := Lib.hid hll
  replace hout := Lib.hid hout
  replace hkeep := Lib.hid hkeep
  obtain ⟨n, hn⟩ : ∃ n, n = recs.length := ⟨_, rfl⟩
  rw [← hn] at hz ⊢
  replace hn := Lib.hid hn
  replace hst := Lib.hid hst
  replace hfr := Lib.hid hfr
  go_enter Try.func37, Try.ntmps37
  go_upto_region 1 with fail
  refine Code.wp_world ?_
  intro w1 hw1
  have hb1 : Below w.heap.size w w1 := by rw [hw1]; exact belowAlloc _ _
  have hQ1 : Blk w1 w.heap.size #[.int .i64 1, .slice ao il cap, .int .i64 arg, .int .u32 nn, .int .i64 R, .int .i64 test, .int .u32 ll] 51 := by rw [hw1]; exact Blk.new _ _ _
  obtain ⟨ob, hob⟩ : ∃ ob, ob = w.heap.size := ⟨_, rfl⟩
  have hob1 : ob < w1.heap.size := by rw [hob]; exact hQ1.lt
  rw [← hob] at hQ1 ⊢
  have q0 := hQ1.cellAt (i := 0) (v := .int .i64 1) rfl
  have q2 := hQ1.cellAt (i := 2) (v := .int .i64 arg) rfl
  replace hob := Lib.hid hob
  clear hw1
  go_wp2_with fail
  go_loopw [10, 11] (fun x10 x11 wr => ∃ i : Nat, i ≤ n ∧ x11 = .int .i64 i ∧ OwnR wr w1.heap.size x10 ((recs.take i).filterMap f) ∧ Below w1.heap.size w1 wr) (fun _ x11 _ => n - (intOf x11).toNat)
  case atStart => exact ⟨0, Nat.zero_le _, rfl, OwnL.nil _ _ _ _ _, Below.refl _ _⟩
  case round =>
    obtain ⟨i, hi, rfl, hO, hbr⟩ := hrel
    have hbw := hb1.trans (hbr.mono hb1.size)
    by_cases hin : i < n
    · have d1 : decide ((i : Int) < (n : Int)) = true := by simp; omega
      have hil' : i < recs.length := by rw [← hn.out]; exact hin
      obtain ⟨rb, ro, rfl, hrb, _⟩ := hr.addr (by omega)
      have hrbw : rb < wr.heap.size := by have := hbw.size; omega
      obtain ⟨r, hr0⟩ : ∃ r, recs[i] = r := ⟨_, rfl⟩
      obtain ⟨_, _, t2, t3, t4, _⟩ := RRecord.at (hr.imp (hbw.mono hB) (Nat.le_refl _) (fun _ _ _ h => h.imp (hbw.mono hB) (Nat.le_refl _))) hil' hr0
      have hs := hst.out i hil'
      rw [hr0, hfr.out] at hs
      have hrv : r.fVal = (r.fVal.toNat : Nat) := by
        obtain ⟨cs2, h2⟩ := SlA.all hr r (by rw [← hr0]; exact List.getElem_mem _)
        exact (rec_ok h2).2
      obtain ⟨rv, hrv2⟩ : ∃ rv, rv = r.fVal.toNat := ⟨_, rfl⟩
      rw [← hrv2] at hrv hs
      rw [hrv] at t4
      have q2r := (hbr.cell (p := ⟨ob, 2, none⟩) hob1).trans q2
      obtain ⟨xa, xc, rfl, -, -, -⟩ := hO.slice
      have hlen : ((recs.take i).filterMap f).length ≤ i := Nat.le_trans (List.length_filterMap_le _ _) (by rw [List.length_take]; omega)
      obtain ⟨L, hL⟩ : ∃ L, L = (recs.take i).filterMap f := ⟨_, rfl⟩
      rw [← hL] at hO hs hlen ⊢
      obtain ⟨nL, hnL⟩ : ∃ nL, nL = L.length := ⟨_, rfl⟩
      rw [← hnL] at hO hlen ⊢
      replace hr0 := Lib.hid hr0
      replace hL := Lib.hid hL
      replace hnL := Lib.hid hnL
      replace hrv2 := Lib.hid hrv2
      clear hrv
      by_cases ha : arg < 0
      · have d2 : decide (arg < 0) = true := by simpa using ha
        rw [if_pos (.inl (by omega))] at hs
        replace hs := Lib.hid hs
        go_wp2_with fail
        go_quiet (fail)
        generalize hw5 : wr.drewN _ = w5
        have hO5 : OwnR w5.drew w1.heap.size (.slice xa nL xc) L := by rw [← hw5]; exact hO
        have hb5 : Below w1.heap.size w1 w5.drew := by rw [← hw5]; exact (below_drewN hbr _).drew
        have t35 : w5.cell? ⟨rb, ro + i * 5 + 3, none⟩ = some (.string r.fKey) := by rw [← hw5]; exact t3
        have t45 : w5.cell? ⟨rb, ro + i * 5 + 4, none⟩ = some (.int .u32 (rv : Nat)) := by rw [← hw5]; exact t4
        have hrb5 : rb < w5.heap.size := by rw [← hw5]; exact hrbw
        clear hw5 hO hbr hbw t2 t3 t4 q2r
        go_upto_region 8 with fail
        refine wp_region_tree (fun wx => wx.cell? ⟨rb, ro + i * 5 + 3, none⟩ = some (.string r.fKey) ∧ wx.cell? ⟨rb, ro + i * 5 + 4, none⟩ = some (.int .u32 (rv : Nat))) 13 15 (by kernel_rfl) rfl (by kernel_rfl) (fun d _ _ _ _ h => by cases d <;> exact h) (⟨t35, t45⟩) (fun opz T hOps hT hTok hHeld => ?_)
        (refine wpTree_q 0 hTok hOps (by kernel_rfl) rfl rfl ⟨?_, ?_, ?_⟩; rotate_left; (focus (intro wx hSx; (try dsimp only at hSx); go_simp; (try with_reducible rfl))); (simp only [Act.put, List.setIfInBounds_toArray, List.set_cons_zero, List.set_cons_succ]))
        (refine wpTree_q 1 hTok hOps (by kernel_rfl) rfl rfl ⟨?_, ?_, ?_⟩; rotate_left; (focus (intro wx hSx; (try dsimp only at hSx); go_simp; (try with_reducible rfl))); (simp only [Act.put, List.setIfInBounds_toArray, List.set_cons_zero, List.set_cons_succ]))
        (refine wpTree_q 2 hTok hOps (by kernel_rfl) rfl rfl ⟨?_, ?_, ?_⟩; rotate_left; (focus (intro wx hSx; (try dsimp only at hSx); go_simp; (try with_reducible rfl))); (simp only [Act.put, List.setIfInBounds_toArray, List.set_cons_zero, List.set_cons_succ]))
        (refine wpTree_q 3 hTok hOps (by kernel_rfl) rfl rfl ⟨?_, ?_, ?_⟩; rotate_left; (focus (intro wx hSx; (try dsimp only at hSx); go_simp; (try with_reducible rfl))); (simp only [Act.put, List.setIfInBounds_toArray, List.set_cons_zero, List.set_cons_succ]))
        (refine wpTree_q 4 hTok hOps (by kernel_rfl) rfl rfl ⟨?_, ?_, ?_⟩; rotate_left; (focus (intro wx hSx; (try dsimp only at hSx); go_simp; (try with_reducible rfl))); (simp only [Act.put, List.setIfInBounds_toArray, List.set_cons_zero, List.set_cons_succ]))
        (refine wpTree_q 5 hTok hOps (by kernel_rfl) rfl rfl ⟨?_, ?_, ?_⟩; rotate_left; (focus (intro wx hSx; (try dsimp only at hSx); go_simp; (try with_reducible rfl))); (simp only [Act.put, List.setIfInBounds_toArray, List.set_cons_zero, List.set_cons_succ]))
        (refine wpTree_q 6 hTok hOps (by kernel_rfl) rfl rfl ⟨?_, ?_, ?_⟩; rotate_left; (focus (intro wx hSx; (try dsimp only at hSx); go_simp; (try with_reducible rfl))); (simp only [Act.put, List.setIfInBounds_toArray, List.set_cons_zero, List.set_cons_succ]))
        (refine wpTree_q 7 hTok hOps (by kernel_rfl) rfl rfl ⟨?_, ?_, ?_⟩; rotate_left; (focus (intro wx hSx; (try dsimp only at hSx); go_simp; (try with_reducible rfl))); (simp only [Act.put, List.setIfInBounds_toArray, List.set_cons_zero, List.set_cons_succ]))
        (refine wpTree_q 8 hTok hOps (by kernel_rfl) rfl rfl ⟨?_, ?_, ?_⟩; rotate_left; (focus (intro wx hSx; (try dsimp only at hSx); go_simp; (try with_reducible rfl))); (simp only [Act.put, List.setIfInBounds_toArray, List.set_cons_zero, List.set_cons_succ]))
        (refine wpTree_q 9 hTok hOps (by kernel_rfl) rfl rfl ⟨?_, ?_, ?_⟩; rotate_left; (focus (intro wx hSx; (try dsimp only at hSx); go_simp; (try with_reducible rfl))); (simp only [Act.put, List.setIfInBounds_toArray, List.set_cons_zero, List.set_cons_succ]))
        (refine wpTree_q 10 hTok hOps (by kernel_rfl) rfl rfl ⟨?_, ?_, ?_⟩; rotate_left; (focus (intro wx hSx; (try dsimp only at hSx); go_simp; (try with_reducible rfl))); (simp only [Act.put, List.setIfInBounds_toArray, List.set_cons_zero, List.set_cons_succ]))
        (refine wpTree_q 11 hTok hOps (by kernel_rfl) rfl rfl ⟨?_, ?_, ?_⟩; rotate_left; (focus (intro wx hSx; (try dsimp only at hSx); go_simp; (try with_reducible rfl))); (simp only [Act.put, List.setIfInBounds_toArray, List.set_cons_zero, List.set_cons_succ]))
        refine wpTree_1 12 hOps (by kernel_rfl) (by decide) rfl (fun K' hK => ?_)
        go_simp
        refine hK.out _ _ ⟨(World.cell?_alloc_lt _ _ _ (by exact hrb5)).trans t35, (World.cell?_alloc_lt _ _ _ (by exact hrb5)).trans t45⟩ ?_
        clear hK K'
        try simp only [Act.put, List.setIfInBounds_toArray, List.set_cons_zero, List.set_cons_succ]
        refine wpTree_nil hOps (by kernel_rfl) ?_
        refine hT.out _ _ ?_
        simp only [List.drop_succ_cons, List.drop_zero]
        clear hOps hT hTok
        try clear hHeld
        go_wp2_with (at_builtin; refine Shut.out ?ka)
        unfold Shut
        refine wpList_app1g rfl _ _ 29 rfl Try.underlying29 hiR hR0 hR1 hR2 rfl (by decide) (enc := encR) (r.fKey, rv) rfl hO5 rfl (encR_len _) (encR_one _) (by rw [← hnL.out]; omega) (by rw [← hnL.out]; unfold maxLen; omega) hb5.size ?_
        intro g7 cap7 w7 hown7 hgr7
        have hb7 := hb5.trans (hgr7.below hb5.size (fun g e => (OwnL.lt hO5 g e).1))
        rw [← hnL.out] at hown7 ⊢
        replace hown7 : OwnR w7 w1.heap.size (.slice (some ⟨g7, 0, none⟩) (nL + 1) cap7) ((recs.take (i + 1)).filterMap f) := by rw [hs.out]; exact hown7
        clear hgr7 hO5 hb5 t35 t45
        go_wp2_with fail
        go_roundw
        case rel => exact ⟨i + 1, by omega, by go_num, hown7, hb7⟩
        case measure => simp [intOf]; omega
      · have d2 : decide (arg < 0) = false := by simpa using ha
        by_cases hp : r.fPart = arg
        · have d3 : (r.fPart == arg) = true := by simpa using hp
          rw [if_pos (.inr hp)] at hs
          replace hs := Lib.hid hs
          clear hp
          go_wp2_with fail
          go_quiet (fail)
          generalize hw5 : wr.drewN _ = w5
          have hO5 : OwnR w5.drew w1.heap.size (.slice xa nL xc) L := by rw [← hw5]; exact hO
          have hb5 : Below w1.heap.size w1 w5.drew := by rw [← hw5]; exact (below_drewN hbr _).drew
          have t35 : w5.cell? ⟨rb, ro + i * 5 + 3, none⟩ = some (.string r.fKey) := by rw [← hw5]; exact t3
          have t45 : w5.cell? ⟨rb, ro + i * 5 + 4, none⟩ = some (.int .u32 (rv : Nat)) := by rw [← hw5]; exact t4
          have hrb5 : rb < w5.heap.size := by rw [← hw5]; exact hrbw
          clear hw5 hO hbr hbw t2 t3 t4 q2r
          go_upto_region 8 with fail
          refine wp_region_tree (fun wx => wx.cell? ⟨rb, ro + i * 5 + 3, none⟩ = some (.string r.fKey) ∧ wx.cell? ⟨rb, ro + i * 5 + 4, none⟩ = some (.int .u32 (rv : Nat))) 13 15 (by kernel_rfl) rfl (by kernel_rfl) (fun d _ _ _ _ h => by cases d <;> exact h) (⟨t35, t45⟩) (fun opz T hOps hT hTok hHeld => ?_)
          (refine wpTree_q 0 hTok hOps (by kernel_rfl) rfl rfl ⟨?_, ?_, ?_⟩; rotate_left; (focus (intro wx hSx; (try dsimp only at hSx); go_simp; (try with_reducible rfl))); (simp only [Act.put, List.setIfInBounds_toArray, List.set_cons_zero, List.set_cons_succ]))
          (refine wpTree_q 1 hTok hOps (by kernel_rfl) rfl rfl ⟨?_, ?_, ?_⟩; rotate_left; (focus (intro wx hSx; (try dsimp only at hSx); go_simp; (try with_reducible rfl))); (simp only [Act.put, List.setIfInBounds_toArray, List.set_cons_zero, List.set_cons_succ]))
          (refine wpTree_q 2 hTok hOps (by kernel_rfl) rfl rfl ⟨?_, ?_, ?_⟩; rotate_left; (focus (intro wx hSx; (try dsimp only at hSx); go_simp; (try with_reducible rfl))); (simp only [Act.put, List.setIfInBounds_toArray, List.set_cons_zero, List.set_cons_succ]))
          (refine wpTree_q 3 hTok hOps (by kernel_rfl) rfl rfl ⟨?_, ?_, ?_⟩; rotate_left; (focus (intro wx hSx; (try dsimp only at hSx); go_simp; (try with_reducible rfl))); (simp only [Act.put, List.setIfInBounds_toArray, List.set_cons_zero, List.set_cons_succ]))
          (refine wpTree_q 4 hTok hOps (by kernel_rfl) rfl rfl ⟨?_, ?_, ?_⟩; rotate_left; (focus (intro wx hSx; (try dsimp only at hSx); go_simp; (try with_reducible rfl))); (simp only [Act.put, List.setIfInBounds_toArray, List.set_cons_zero, List.set_cons_succ]))
          (refine wpTree_q 5 hTok hOps (by kernel_rfl) rfl rfl ⟨?_, ?_, ?_⟩; rotate_left; (focus (intro wx hSx; (try dsimp only at hSx); go_simp; (try with_reducible rfl))); (simp only [Act.put, List.setIfInBounds_toArray, List.set_cons_zero, List.set_cons_succ]))
          (refine wpTree_q 6 hTok hOps (by kernel_rfl) rfl rfl ⟨?_, ?_, ?_⟩; rotate_left; (focus (intro wx hSx; (try dsimp only at hSx); go_simp; (try with_reducible rfl))); (simp only [Act.put, List.setIfInBounds_toArray, List.set_cons_zero, List.set_cons_succ]))
          (refine wpTree_q 7 hTok hOps (by kernel_rfl) rfl rfl ⟨?_, ?_, ?_⟩; rotate_left; (focus (intro wx hSx; (try dsimp only at hSx); go_simp; (try with_reducible rfl))); (simp only [Act.put, List.setIfInBounds_toArray, List.set_cons_zero, List.set_cons_succ]))
          (refine wpTree_q 8 hTok hOps (by kernel_rfl) rfl rfl ⟨?_, ?_, ?_⟩; rotate_left; (focus (intro wx hSx; (try dsimp only at hSx); go_simp; (try with_reducible rfl))); (simp only [Act.put, List.setIfInBounds_toArray, List.set_cons_zero, List.set_cons_succ]))
          (refine wpTree_q 9 hTok hOps (by kernel_rfl) rfl rfl ⟨?_, ?_, ?_⟩; rotate_left; (focus (intro wx hSx; (try dsimp only at hSx); go_simp; (try with_reducible rfl))); (simp only [Act.put, List.setIfInBounds_toArray, List.set_cons_zero, List.set_cons_succ]))
          (refine wpTree_q 10 hTok hOps (by kernel_rfl) rfl rfl ⟨?_, ?_, ?_⟩; rotate_left; (focus (intro wx hSx; (try dsimp only at hSx); go_simp; (try with_reducible rfl))); (simp only [Act.put, List.setIfInBounds_toArray, List.set_cons_zero, List.set_cons_succ]))
          (refine wpTree_q 11 hTok hOps (by kernel_rfl) rfl rfl ⟨?_, ?_, ?_⟩; rotate_left; (focus (intro wx hSx; (try dsimp only at hSx); go_simp; (try with_reducible rfl))); (simp only [Act.put, List.setIfInBounds_toArray, List.set_cons_zero, List.set_cons_succ]))
          refine wpTree_1 12 hOps (by kernel_rfl) (by decide) rfl (fun K' hK => ?_)
          go_simp
          refine hK.out _ _ ⟨(World.cell?_alloc_lt _ _ _ (by exact hrb5)).trans t35, (World.cell?_alloc_lt _ _ _ (by exact hrb5)).trans t45⟩ ?_
          clear hK K'
          try simp only [Act.put, List.setIfInBounds_toArray, List.set_cons_zero, List.set_cons_succ]
          refine wpTree_nil hOps (by kernel_rfl) ?_
          refine hT.out _ _ ?_
          simp only [List.drop_succ_cons, List.drop_zero]
          clear hOps hT hTok
          try clear hHeld
          go_wp2_with (at_builtin; refine Shut.out ?kb)
          unfold Shut
          refine wpList_app1g rfl _ _ 29 rfl Try.underlying29 hiR hR0 hR1 hR2 rfl (by decide) (enc := encR) (r.fKey, rv) rfl hO5 rfl (encR_len _) (encR_one _) (by rw [← hnL.out]; omega) (by rw [← hnL.out]; unfold maxLen; omega) hb5.size ?_
          intro g7 cap7 w7 hown7 hgr7
          have hb7 := hb5.trans (hgr7.below hb5.size (fun g e => (OwnL.lt hO5 g e).1))
          rw [← hnL.out] at hown7 ⊢
          replace hown7 : OwnR w7 w1.heap.size (.slice (some ⟨g7, 0, none⟩) (nL + 1) cap7) ((recs.take (i + 1)).filterMap f) := by rw [hs.out]; exact hown7
          clear hgr7 hO5 hb5 t35 t45
          go_wp2_with fail
          go_roundw
          case rel => exact ⟨i + 1, by omega, by go_num, hown7, hb7⟩
          case measure => simp [intOf]; omega
        · have d3 : (r.fPart == arg) = false := by simpa using hp
          rw [if_neg (by
            rintro (h | h)
            · omega
            · exact hp h)] at hs
          have hO2 : OwnR wr w1.heap.size (.slice xa nL xc) ((recs.take (i + 1)).filterMap f) := by rw [hs]; exact hO
          clear hs hp
          go_wp2_with fail
          go_quiet (fail)
          go_wp2_with fail
          go_roundw
          case rel => exact ⟨i + 1, by omega, by go_num, OwnL.drewN hO2 _, below_drewN hbr _⟩
          case measure => simp [intOf]; omega
    · have d1 : decide ((i : Int) < (n : Int)) = false := by simp; omega
      have hti : recs.take i = recs := List.take_of_length_le (by have := hn.out; omega)
      rw [hti] at hO
      clear hti
      go_wp2_with fail
      go_ret2
      exact ⟨_, _, _, rfl, OwnL.base_le hO hb1.size, .refl _, OwnL.nil _ _ _ _ _, hbw⟩

/-- A list of a row of lists. -/
theorem StA.get {w : World} {B : Nat} {so : Option Addr} {cap : Nat} {s : ST} (h : StA w B so cap s) {i : Nat} {a : PRS} (ha : s[i]? = some a) : ∃ b off ao c, so = some ⟨b, off, none⟩ ∧ b < B ∧ w.cell? ⟨b, off + i, none⟩ = some (.slice ao a.length c) ∧ PrA B w ao c a ∧ i < s.length := by
  obtain ⟨hi, rfl⟩ := List.getElem?_eq_some_iff.1 ha
  obtain ⟨b, off, rfl, hb, _⟩ := h.addr (by omega)
  obtain ⟨ao, c, h1, h2⟩ := StA.at h hi
  exact ⟨b, off, ao, c, rfl, hb, h1, h2, hi⟩

set_option maxRecDepth 100000 in
set_option maxHeartbeats 4000000 in
theorem rop_union (o : TOp) (hk : o.fKind = 6) (recs : List TRecord) (I : ST) (a b kept : PRS) (ao ia ko ra : Option Addr) (cap ic kcap km rcap rm B : Nat) (w : World) (hB : B ≤ w.heap.size) (hI : StA w B ia ic I) (ha : I[0]? = some a) (hb : I[1]? = some b) (hza : a.length ≤ 100000) (hzb : b.length ≤ 100000) :
    Calls Try.prog 37 #[opAgg o ao cap, .slice ia I.length ic, .slice ko km kcap, .slice ra rm rcap] w (ROPost (opOut o a b kept recs) (opKeep o a kept) w) := by
  have hout : opOut o a b kept recs = a ++ b := by unfold opOut; rw [if_neg (by omega), if_pos hk]
  have hkeep : opKeep o a kept = [] := opKeep_no (by omega) a kept
  rw [hout, hkeep]
  obtain ⟨iR, hiR, hR0, hR1, hR2⟩ := partsR
  unfold opAgg
  obtain ⟨kind, ins, arg, num, rounds, test, lim⟩ := o
  dsimp only at *
  subst hk
  obtain ⟨il, hil⟩ : ∃ il, il = ins.length := ⟨_, rfl⟩
  rw [← hil]
  obtain ⟨nn, hnn⟩ : ∃ nn, nn = num.toNat := ⟨_, rfl⟩
  obtain ⟨R, hR⟩ : ∃ R, R = rounds.toNat := ⟨_, rfl⟩
  obtain ⟨ll, hll⟩ : ∃ ll, ll = lim.toNat := ⟨_, rfl⟩
  rw [← hnn, ← hR, ← hll]
  replace hil := Lib.hid hil
  replace hnn := Lib.hid hnn
  replace hR := Lib.hid hR
  replace hll := Lib.hid hll
  replace hout := Lib.hid hout
  replace hkeep := Lib.hid hkeep
  obtain ⟨ib, io, a0, c0, rfl, hib, e0, hPa, hi0⟩ := StA.get hI ha
  obtain ⟨ib', io', b0, d0, e, _, e1, hPb, hi1⟩ := StA.get hI hb
  simp only [Option.some.injEq, Addr.mk.injEq, and_true] at e
  obtain ⟨rfl, rfl⟩ := e
  obtain ⟨im, him⟩ : ∃ im, im = I.length := ⟨_, rfl⟩
  rw [← him] at hi0 hi1 ⊢
  obtain ⟨na, hna⟩ : ∃ na, na = a.length := ⟨_, rfl⟩
  obtain ⟨nb, hnb⟩ : ∃ nb, nb = b.length := ⟨_, rfl⟩
  rw [← hna] at e0 hza
  rw [← hnb] at e1 hzb
  rw [Nat.add_zero] at e0
  replace him := Lib.hid him
  replace hna := Lib.hid hna
  replace hnb := Lib.hid hnb
  clear hI ha hb
  go_enter Try.func37, Try.ntmps37
  go_upto_region 1 with fail
  refine Code.wp_world ?_
  intro w1 hw1
  have hb1 : Below w.heap.size w w1 := by rw [hw1]; exact belowAlloc _ _
  have hQ1 : Blk w1 w.heap.size #[.int .i64 6, .slice ao il cap, .int .i64 arg, .int .u32 nn, .int .i64 R, .int .i64 test, .int .u32 ll] 51 := by rw [hw1]; exact Blk.new _ _ _
  obtain ⟨ob, hob⟩ : ∃ ob, ob = w.heap.size := ⟨_, rfl⟩
  have hob1 : ob < w1.heap.size := by rw [hob]; exact hQ1.lt
  rw [← hob] at hQ1 ⊢
  have q0 := hQ1.cellAt (i := 0) (v := .int .i64 6) rfl
  have q2 := hQ1.cellAt (i := 2) (v := .int .i64 arg) rfl
  replace hob := Lib.hid hob
  clear hw1
  have f0 := (hb1.cell (p := ⟨ib, io, none⟩) (by simp; omega)).trans e0
  have f1 := (hb1.cell (p := ⟨ib, io + 1, none⟩) (by simp; omega)).trans e1
  have hPa1 := hPa.imp' (hb1.mono hB) (Nat.le_refl _)
  have hPb1 := hPb.imp' (hb1.mono hB) (Nat.le_refl _)
  have hibw : ib < w1.heap.size := by have := hb1.size; omega
  have hBw : B ≤ w1.heap.size := Nat.le_trans hB hb1.size
  clear e0 e1 hPa hPb
  go_upto_region 23 with fail
  refine wp_region_tree (fun wx => wx.cell? ⟨ib, io, none⟩ = some (.slice a0 na c0) ∧ wx.cell? ⟨ib, io + 1, none⟩ = some (.slice b0 nb d0)) 8 11 (by kernel_rfl) rfl (by kernel_rfl) (fun d _ _ _ _ h => by cases d <;> exact h) (⟨f0, f1⟩) (fun opz T hOps hT hTok hHeld => ?_)
  (refine wpTree_q 0 hTok hOps (by kernel_rfl) rfl rfl ⟨?_, ?_, ?_⟩; rotate_left; (focus (intro wx hSx; (try dsimp only at hSx); go_simp; (try with_reducible rfl))); (simp only [Act.put, List.setIfInBounds_toArray, List.set_cons_zero, List.set_cons_succ]))
  (refine wpTree_q 1 hTok hOps (by kernel_rfl) rfl rfl ⟨?_, ?_, ?_⟩; rotate_left; (focus (intro wx hSx; (try dsimp only at hSx); go_simp; (try with_reducible rfl))); (simp only [Act.put, List.setIfInBounds_toArray, List.set_cons_zero, List.set_cons_succ]))
  (refine wpTree_q 2 hTok hOps (by kernel_rfl) rfl rfl ⟨?_, ?_, ?_⟩; rotate_left; (focus (intro wx hSx; (try dsimp only at hSx); go_simp; (try with_reducible rfl))); (simp only [Act.put, List.setIfInBounds_toArray, List.set_cons_zero, List.set_cons_succ]))
  (refine wpTree_q 3 hTok hOps (by kernel_rfl) rfl rfl ⟨?_, ?_, ?_⟩; rotate_left; (focus (intro wx hSx; (try dsimp only at hSx); go_simp; (try with_reducible rfl))); (simp only [Act.put, List.setIfInBounds_toArray, List.set_cons_zero, List.set_cons_succ]))
  (refine wpTree_q 5 hTok hOps (by kernel_rfl) rfl rfl ⟨?_, ?_, ?_⟩; rotate_left; (focus (intro wx hSx; (try dsimp only at hSx); go_simp; (try with_reducible rfl))); (simp only [Act.put, List.setIfInBounds_toArray, List.set_cons_zero, List.set_cons_succ]))
  (refine wpTree_qg 6 hTok hOps (by kernel_rfl) rfl rfl ⟨?_, ?_, ?_⟩; rotate_left; (focus (intro wx hSx; (try dsimp only at hSx); go_simp; rw [if_pos (by omega)])); (simp only [Act.put, List.setIfInBounds_toArray, List.set_cons_zero, List.set_cons_succ]))
  (refine wpTree_q 7 hTok hOps (by kernel_rfl) rfl rfl ⟨?_, ?_, ?_⟩; rotate_left; (focus (intro wx hSx; (try dsimp only at hSx); go_simp; (try with_reducible rfl))); (simp only [Act.put, List.setIfInBounds_toArray, List.set_cons_zero, List.set_cons_succ]))
  refine wpTree_1 4 hOps (by kernel_rfl) (by decide) rfl (fun K' hK => ?_)
  refine step_app_sla w1.drew rfl _ _ 29 rfl Try.underlying29 hiR hR0 hR1 hR2 rfl (by decide) (enc := encR) (xs := []) (ys := a) (B := B) (base := w1.heap.size) rfl (OwnL.nil _ _ _ _ _) (by rw [← hna.out]; rfl) (hPa1.imp (Below.refl _ _).drew (Nat.le_refl _) (fun _ _ _ h => h)) encR_len encR_one (by rw [← hna.out]; unfold maxLen; simp; omega) (by rw [← hna.out]; simp; omega) (by simp) (fun v5 w5 hown5 hgr5 => ?_)
  have hb5 : Below w1.heap.size w1 w5 := (Below.refl _ _).drew.grown hgr5 (Nat.le_refl _) (fun g hg => by have e : (none : Option Nat) = some g := hg; cases e)
  rw [List.nil_append] at hown5
  refine hK.out _ _ ⟨(hb5.cell (p := ⟨ib, io, none⟩) hibw).trans f0, (hb5.cell (p := ⟨ib, io + 1, none⟩) hibw).trans f1⟩ ?_
  clear hK K' hgr5
  try simp only [Act.put, List.setIfInBounds_toArray, List.set_cons_zero, List.set_cons_succ]
  refine wpTree_nil hOps (by kernel_rfl) ?_
  refine hT.out _ _ ?_
  simp only [List.drop_succ_cons, List.drop_zero]
  clear hOps hT hTok
  try clear hHeld
  have hPb5 := hPb1.imp' (hb5.mono hBw) (Nat.le_refl _)
  obtain ⟨a5, c5, rfl, -, -, -⟩ := OwnL.slice hown5
  rw [← hna.out]
  rw [← hna.out] at hown5
  clear hPa1 hPb1
  go_wp2_with (at_builtin; refine Shut.out ?kb)
  unfold Shut
  refine wpList_app_sla (xs := a) (ys := b) (enc := encR) (base := w1.heap.size) _ rfl _ _ 29 rfl Try.underlying29 hiR hR0 hR1 hR2 rfl (by decide) rfl hown5 (by show Value.slice b0 nb d0 = _; rw [hnb.out]) hPb5 encR_len encR_one (by rw [← hna.out, ← hnb.out]; unfold maxLen; omega) (by rw [← hna.out, ← hnb.out]; omega) hb5.size (fun v6 w6 hown6 hgr6 => ?_)
  have hb6 : Below w1.heap.size w1 w6 := hb5.grown hgr6 hb5.size (fun g hg => (OwnL.lt hown5 g hg).1)
  clear hgr6 hown5 hPb5
  go_wp2_with fail
  go_ret2
  exact ⟨_, _, _, rfl, OwnL.base_le hown6 hb1.size, .refl _, OwnL.nil _ _ _ _ _, hb1.trans (hb6.mono hb1.size)⟩
end Go.Proofs.Ytbianedgogdeeaa

/- Model: the document's op: fold, join. -/
namespace Go.Proofs.Ytbianedgogdeeaa
open Go.RowKit Go.Maps Fold Go.Lib
attribute [local go_sem] Oper.semAt_some
set_option linter.unusedVariables false
set_option linter.unusedSimpArgs false

set_option maxRecDepth 100000 in
set_option maxHeartbeats 4000000 in
theorem rop_fold (o : TOp) (hk : o.fKind = 4) (recs : List TRecord) (I : ST) (a b kept : PRS) (ao ia ko ra : Option Addr) (cap ic kcap rcap rm B : Nat) (w : World) (hB : B ≤ w.heap.size) (hI : StA w B ia ic I) (ha : I[0]? = some a) (hK : PrA B w ko kcap kept) (h0 : 0 ≤ o.fArg) (h6 : o.fArg ≤ 6) (hoka : okL a) (hokk : okL kept) (hs : Srt kept) (hza : a.length ≤ 100000) (hzk : kept.length ≤ 5864062014805) :
    Calls Try.prog 37 #[opAgg o ao cap, .slice ia I.length ic, .slice ko kept.length kcap, .slice ra rm rcap] w (ROPost (opOut o a b kept recs) (opKeep o a kept) w) := by
  have hout : opOut o a b kept recs = foldOut o.fArg a kept := by unfold opOut; rw [if_neg (by omega), if_neg (by omega), if_pos hk]
  have hkeep : opKeep o a kept = foldKeep o.fArg a kept := by unfold opKeep; rw [if_pos hk]
  rw [hout, hkeep]
  obtain ⟨iR, hiR, hR0, hR1, hR2⟩ := partsR
  unfold opAgg
  obtain ⟨kind, ins, arg, num, rounds, test, lim⟩ := o
  dsimp only at *
  subst hk
  obtain ⟨il, hil⟩ : ∃ il, il = ins.length := ⟨_, rfl⟩
  rw [← hil]
  obtain ⟨nn, hnn⟩ : ∃ nn, nn = num.toNat := ⟨_, rfl⟩
  obtain ⟨R, hR⟩ : ∃ R, R = rounds.toNat := ⟨_, rfl⟩
  obtain ⟨ll, hll⟩ : ∃ ll, ll = lim.toNat := ⟨_, rfl⟩
  rw [← hnn, ← hR, ← hll]
  replace hil := Lib.hid hil
  replace hnn := Lib.hid hnn
  replace hR := Lib.hid hR
  replace hll := Lib.hid hll
  replace hout := Lib.hid hout
  replace hkeep := Lib.hid hkeep
  obtain ⟨ib, io, a0, c0, rfl, hib, e0, hPa, hi0⟩ := StA.get hI ha
  have hfd := fun W (hW : Below w.heap.size w W) => rfold_any arg a kept a0 ko c0 kcap B W (Nat.le_trans hB hW.size) (by omega) (hPa.imp' (hW.mono hB) (Nat.le_refl _)) (hK.imp' (hW.mono hB) (Nat.le_refl _)) hoka hokk hs (by omega) hzk
  obtain ⟨im, him⟩ : ∃ im, im = I.length := ⟨_, rfl⟩
  rw [← him] at hi0 ⊢
  obtain ⟨na, hna⟩ : ∃ na, na = a.length := ⟨_, rfl⟩
  obtain ⟨nk, hnk⟩ : ∃ nk, nk = kept.length := ⟨_, rfl⟩
  rw [← hna] at e0 hza hfd
  rw [← hnk] at hzk hfd ⊢
  rw [Nat.add_zero] at e0
  replace him := Lib.hid him
  replace hna := Lib.hid hna
  replace hnk := Lib.hid hnk
  replace hfd := Lib.hid hfd
  clear hI ha hPa hK
  go_enter Try.func37, Try.ntmps37
  go_upto_region 1 with fail
  refine Code.wp_world ?_
  intro w1 hw1
  have hb1 : Below w.heap.size w w1 := by rw [hw1]; exact belowAlloc _ _
  have hQ1 : Blk w1 w.heap.size #[.int .i64 4, .slice ao il cap, .int .i64 arg, .int .u32 nn, .int .i64 R, .int .i64 test, .int .u32 ll] 51 := by rw [hw1]; exact Blk.new _ _ _
  obtain ⟨ob, hob⟩ : ∃ ob, ob = w.heap.size := ⟨_, rfl⟩
  have hob1 : ob < w1.heap.size := by rw [hob]; exact hQ1.lt
  rw [← hob] at hQ1 ⊢
  have q0 := hQ1.cellAt (i := 0) (v := .int .i64 4) rfl
  have q2 := hQ1.cellAt (i := 2) (v := .int .i64 arg) rfl
  replace hob := Lib.hid hob
  clear hw1
  have f0 := (hb1.cell (p := ⟨ib, io, none⟩) (by simp; omega)).trans e0
  clear e0
  go_upto_region 11 with fail
  refine wp_region_tree (fun wx => wx.cell? ⟨ib, io, none⟩ = some (.slice a0 na c0) ∧ wx.cell? ⟨ob, 2, none⟩ = some (.int .i64 arg)) 9 11 (by kernel_rfl) rfl (by kernel_rfl) (fun d _ _ _ _ h => by cases d <;> exact h) (⟨f0, q2⟩) (fun opz T hOps hT hTok hHeld => ?_)
  (refine wpTree_q 0 hTok hOps (by kernel_rfl) rfl rfl ⟨?_, ?_, ?_⟩; rotate_left; (focus (intro wx hSx; (try dsimp only at hSx); go_simp; (try with_reducible rfl))); (simp only [Act.put, List.setIfInBounds_toArray, List.set_cons_zero, List.set_cons_succ]))
  (refine wpTree_q 1 hTok hOps (by kernel_rfl) rfl rfl ⟨?_, ?_, ?_⟩; rotate_left; (focus (intro wx hSx; (try dsimp only at hSx); go_simp; (try with_reducible rfl))); (simp only [Act.put, List.setIfInBounds_toArray, List.set_cons_zero, List.set_cons_succ]))
  (refine wpTree_q 2 hTok hOps (by kernel_rfl) rfl rfl ⟨?_, ?_, ?_⟩; rotate_left; (focus (intro wx hSx; (try dsimp only at hSx); go_simp; (try with_reducible rfl))); (simp only [Act.put, List.setIfInBounds_toArray, List.set_cons_zero, List.set_cons_succ]))
  (refine wpTree_q 3 hTok hOps (by kernel_rfl) rfl rfl ⟨?_, ?_, ?_⟩; rotate_left; (focus (intro wx hSx; (try dsimp only at hSx); go_simp; (try with_reducible rfl))); (simp only [Act.put, List.setIfInBounds_toArray, List.set_cons_zero, List.set_cons_succ]))
  (refine wpTree_q 4 hTok hOps (by kernel_rfl) rfl rfl ⟨?_, ?_, ?_⟩; rotate_left; (focus (intro wx hSx; (try dsimp only at hSx); go_simp; (try with_reducible rfl))); (simp only [Act.put, List.setIfInBounds_toArray, List.set_cons_zero, List.set_cons_succ]))
  (refine wpTree_q 5 hTok hOps (by kernel_rfl) rfl rfl ⟨?_, ?_, ?_⟩; rotate_left; (focus (intro wx hSx; (try dsimp only at hSx); go_simp; (try with_reducible rfl))); (simp only [Act.put, List.setIfInBounds_toArray, List.set_cons_zero, List.set_cons_succ]))
  refine wpTree_1 6 hOps (by kernel_rfl) (by decide) rfl (fun K' hK => ?_)
  go_simp
  have hfd1 := hfd.out w1.drew hb1.drew
  refine hfd1.mono ?_
  rintro e w2 ⟨v1, v2, rfl, hO1, hO2, hb2⟩
  have hb12 : Below w1.heap.size w1 w2 := (Below.refl _ _).drew.trans hb2
  dsimp only
  refine hK.out _ _ ⟨(hb12.cell (p := ⟨ib, io, none⟩) (by have := hb1.size; simp; omega)).trans f0, (hb12.cell (p := ⟨ob, 2, none⟩) hob1).trans q2⟩ ?_
  clear hK K' hfd1
  try simp only [Act.put, List.setIfInBounds_toArray, List.set_cons_zero, List.set_cons_succ]
  (refine wpTree_q 7 hTok hOps (by kernel_rfl) rfl rfl ⟨?_, ?_, ?_⟩; rotate_left; (focus (intro wx hSx; (try dsimp only at hSx); go_simp; (try with_reducible rfl))); (simp only [Act.put, List.setIfInBounds_toArray, List.set_cons_zero, List.set_cons_succ]))
  (refine wpTree_q 8 hTok hOps (by kernel_rfl) rfl rfl ⟨?_, ?_, ?_⟩; rotate_left; (focus (intro wx hSx; (try dsimp only at hSx); go_simp; (try with_reducible rfl))); (simp only [Act.put, List.setIfInBounds_toArray, List.set_cons_zero, List.set_cons_succ]))
  refine wpTree_nil hOps (by kernel_rfl) ?_
  refine hT.out _ _ ?_
  simp only [List.drop_succ_cons, List.drop_zero]
  clear hOps hT hTok
  try clear hHeld
  go_wp2_with fail
  go_ret2
  exact ⟨_, _, _, rfl, OwnL.base_le hO1 hb1.size, sortP_perm _, OwnL.base_le hO2 hb1.size, hb1.trans (hb12.mono hb1.size)⟩

/-- What a join tells of a pair. -/
def jnP (w : Int) (R : PRS) (p : PR) : Option PR := (getL R p.1).map (fun v => (p.1, joinN w p.2 v))
theorem jn_keys {w : Int} (hw : ¬ (w < 0 ∨ 6 < w)) (a b : PRS) : ∀ ks : List ByteArray, (∀ k ∈ ks, k ∈ keysK a) → (ks.map (fun k => (k, foldV w a [] k))).filterMap (jnP w (foldKeep w b [])) = (ks.filter (fun k => decide (k ∈ keysK b))).map (fun k => (k, joinN w (allN w (valsK a k)) (allN w (valsK b k))))
  | [], _ => rfl
  | k :: r, h => by
    have ih := jn_keys hw a b r (fun x hx => h x (List.mem_cons_of_mem _ hx))
    have hka := h k (List.mem_cons_self ..)
    have hv : ∀ {l : PRS}, k ∈ keysK l → ∃ v, allO w (valsK l k) = some v := fun {l} hl => by
      cases ha : allO w (valsK l k) with
      | some v => exact ⟨v, rfl⟩
      | none =>
        have h1 := allO_isSome w (valsK l k)
        rw [ha] at h1
        exact absurd hl (valsK_nil.1 (by simpa using h1))
    obtain ⟨va, hva⟩ := hv hka
    have hfa : foldV w a [] k = va := by unfold foldV; rw [hva]; rfl
    have hna : allN w (valsK a k) = va := (allN_good hw hva).1
    rw [List.map_cons, List.filterMap_cons, ih]
    by_cases hkb : k ∈ keysK b
    · obtain ⟨vb, hvb⟩ := hv hkb
      have hg : getL (foldKeep w b []) k = some vb := by rw [getL_foldKeep2, hvb]; rfl
      have hnb : allN w (valsK b k) = vb := (allN_good hw hvb).1
      have hj : jnP w (foldKeep w b []) (k, foldV w a [] k) = some (k, joinN w va vb) := by unfold jnP; dsimp only; rw [hg, hfa]; rfl
      rw [hj, List.filter_cons_of_pos (by simpa using hkb), List.map_cons, hna, hnb]
    · have hg : getL (foldKeep w b []) k = none := by rw [getL_foldKeep2, valsK_nil.2 hkb]; rfl
      have hj : jnP w (foldKeep w b []) (k, foldV w a [] k) = none := by unfold jnP; dsimp only; rw [hg]; rfl
      rw [hj, List.filter_cons_of_neg (by simpa using hkb)]
theorem jn_perm {w : Int} (hw : ¬ (w < 0 ∨ 6 < w)) (a b : PRS) : ((foldKeep w a []).filterMap (jnP w (foldKeep w b []))).Perm (joinOut w a b) := by
  rw [← sort_foldOut w a]
  refine ((sortP_perm _).filterMap _).trans ?_
  unfold foldOut joinOut
  rw [jn_keys hw a b _ (fun k hk => hk)]
theorem fm_step {f : PR → Option PR} {l : PRS} {i : Nat} (hi : i < l.length) : (l.take (i + 1)).filterMap f = match f l[i] with | some p => (l.take i).filterMap f ++ [p] | none => (l.take i).filterMap f := by
  rw [List.take_succ_eq_append_getElem hi, List.filterMap_append]
  cases h : f l[i] with
  | none => simp [h]
  | some p => simp [h]

set_option maxRecDepth 100000 in
set_option maxHeartbeats 4000000 in
theorem rop_join (o : TOp) (hk : o.fKind = 5) (recs : List TRecord) (I : ST) (a b kept : PRS) (ao ia ko ra : Option Addr) (cap ic kcap km rcap rm B : Nat) (w : World) (hB : B ≤ w.heap.size) (hI : StA w B ia ic I) (ha : I[0]? = some a) (hb : I[1]? = some b) (h0 : 0 ≤ o.fArg) (h6 : o.fArg ≤ 6) (hoka : okL a) (hokb : okL b) (hza : a.length ≤ 100000) (hzb : b.length ≤ 100000) :
    Calls Try.prog 37 #[opAgg o ao cap, .slice ia I.length ic, .slice ko km kcap, .slice ra rm rcap] w (ROPost (opOut o a b kept recs) (opKeep o a kept) w) := by
  have hout : opOut o a b kept recs = joinOut o.fArg a b := by unfold opOut; rw [if_neg (by omega), if_neg (by omega), if_neg (by omega), if_pos hk]
  have hkeep : opKeep o a kept = [] := opKeep_no (by omega) a kept
  rw [hout, hkeep]
  have hw : ¬ (o.fArg < 0 ∨ 6 < o.fArg) := by omega
  have hperm := jn_perm hw a b
  have hAok : okL (foldKeep o.fArg a []) := foldKeep_ok hw List.Pairwise.nil hoka (fun p hp => absurd hp (by simp))
  have hBok : okL (foldKeep o.fArg b []) := foldKeep_ok hw List.Pairwise.nil hokb (fun p hp => absurd hp (by simp))
  have hAl : (foldKeep o.fArg a []).length ≤ a.length := by have := foldKeep_len o.fArg a []; simpa using this
  obtain ⟨iR, hiR, hR0, hR1, hR2⟩ := partsR
  unfold opAgg
  obtain ⟨kind, ins, arg, num, rounds, test, lim⟩ := o
  dsimp only at *
  subst hk
  obtain ⟨il, hil⟩ : ∃ il, il = ins.length := ⟨_, rfl⟩
  rw [← hil]
  obtain ⟨nn, hnn⟩ : ∃ nn, nn = num.toNat := ⟨_, rfl⟩
  obtain ⟨R, hR⟩ : ∃ R, R = rounds.toNat := ⟨_, rfl⟩
  obtain ⟨ll, hll⟩ : ∃ ll, ll = lim.toNat := ⟨_, rfl⟩
  rw [← hnn, ← hR, ← hll]
  replace hil := Lib.hid hil
  replace hnn := Lib.hid hnn
  replace hR := Lib.hid hR
  replace hll := Lib.hid hll
  replace hout := Lib.hid hout
  replace hkeep := Lib.hid hkeep
  obtain ⟨ib, io, a0, c0, rfl, hib, e0, hPa, hi0⟩ := StA.get hI ha
  obtain ⟨ib', io', b0, d0, e, _, e1, hPb, hi1⟩ := StA.get hI hb
  simp only [Option.some.injEq, Addr.mk.injEq, and_true] at e
  obtain ⟨rfl, rfl⟩ := e
  have hga := fun W (hW : Below w.heap.size w W) => rgroup_any arg a a0 c0 B W (Nat.le_trans hB hW.size) hw (hPa.imp' (hW.mono hB) (Nat.le_refl _)) hoka (by omega)
  have hgb := fun W (hW : Below w.heap.size w W) => rgroup_any arg b b0 d0 B W (Nat.le_trans hB hW.size) hw (hPb.imp' (hW.mono hB) (Nat.le_refl _)) hokb (by omega)
  obtain ⟨im, him⟩ : ∃ im, im = I.length := ⟨_, rfl⟩
  rw [← him] at hi0 hi1 ⊢
  obtain ⟨na, hna⟩ : ∃ na, na = a.length := ⟨_, rfl⟩
  obtain ⟨nb, hnb⟩ : ∃ nb, nb = b.length := ⟨_, rfl⟩
  rw [← hna] at e0 hza hga hAl
  rw [← hnb] at e1 hzb hgb
  rw [Nat.add_zero] at e0
  obtain ⟨A, hA⟩ : ∃ A, A = foldKeep arg a [] := ⟨_, rfl⟩
  obtain ⟨G, hG⟩ : ∃ G, G = foldKeep arg b [] := ⟨_, rfl⟩
  rw [← hA] at hperm hAok hAl hga
  rw [← hG] at hperm hBok hgb
  obtain ⟨J, hJ⟩ : ∃ J, J = joinOut arg a b := ⟨_, rfl⟩
  rw [← hJ] at hperm ⊢
  have hst := fun i hi => fm_step (f := jnP arg G) (l := A) (i := i) hi
  obtain ⟨f, hf⟩ : ∃ f, f = jnP arg G := ⟨_, rfl⟩
  have hfr : ∀ p, f p = (getL G p.1).map (fun v => (p.1, joinN arg p.2 v)) := fun p => by rw [hf]; rfl
  rw [← hf] at hst hperm
  replace him := Lib.hid him
  replace hna := Lib.hid hna
  replace hnb := Lib.hid hnb
  replace hga := Lib.hid hga
  replace hgb := Lib.hid hgb
  replace hst := Lib.hid hst
  replace hfr := Lib.hid hfr
  replace hperm := Lib.hid hperm
  clear hI ha hb hPa hPb hA hG hJ hf
  go_enter Try.func37, Try.ntmps37
  go_upto_region 1 with fail
  refine Code.wp_world ?_
  intro w1 hw1
  have hb1 : Below w.heap.size w w1 := by rw [hw1]; exact belowAlloc _ _
  have hQ1 : Blk w1 w.heap.size #[.int .i64 5, .slice ao il cap, .int .i64 arg, .int .u32 nn, .int .i64 R, .int .i64 test, .int .u32 ll] 51 := by rw [hw1]; exact Blk.new _ _ _
  obtain ⟨ob, hob⟩ : ∃ ob, ob = w.heap.size := ⟨_, rfl⟩
  have hob1 : ob < w1.heap.size := by rw [hob]; exact hQ1.lt
  rw [← hob] at hQ1 ⊢
  have q0 := hQ1.cellAt (i := 0) (v := .int .i64 5) rfl
  have q2 := hQ1.cellAt (i := 2) (v := .int .i64 arg) rfl
  replace hob := Lib.hid hob
  clear hw1
  have f0 := (hb1.cell (p := ⟨ib, io, none⟩) (by simp; omega)).trans e0
  have f1 := (hb1.cell (p := ⟨ib, io + 1, none⟩) (by simp; omega)).trans e1
  have hibw : ib < w1.heap.size := by have := hb1.size; omega
  clear e0 e1
  go_upto_region 13 with fail
  refine wp_region_quiet_tail 5 (by kernel_rfl) (by kernel_rfl) ?_
  simp only [List.take_succ_cons, List.take_zero, List.drop_succ_cons, List.drop_zero]
  repeat (go_big_quiet_step (fail))
  refine wpQuiet_nil ?_
  rintro w2 ⟨m2, hm2⟩
  have hb2 : Below w1.heap.size w1 w2 := by rw [hm2]; exact below_drewN (Below.refl _ _) m2
  clear hm2
  have hga2 := hga.out w2 (hb1.trans (hb2.mono hb1.size))
  replace hga2 := Lib.hid hga2
  clear hga
  go_wp2_with (go_at_call 54; refine Shut.out ?ka)
  unfold Shut
  refine hga2.out.mono ?_
  rintro e w3 ⟨v3, rfl, hA3, hb3⟩
  have hb13 := hb2.trans (hb3.mono hb2.size)
  have g1 := (hb13.cell (p := ⟨ib, io + 1, none⟩) hibw).trans f1
  have q2b := (hb13.cell (p := ⟨ob, 2, none⟩) hob1).trans q2
  clear hga2
  dsimp only
  go_upto_region 14 with fail
  refine wp_region_quiet_tail 5 (by kernel_rfl) (by kernel_rfl) ?_
  simp only [List.take_succ_cons, List.take_zero, List.drop_succ_cons, List.drop_zero]
  repeat (go_big_quiet_step (fail))
  refine wpQuiet_nil ?_
  rintro w4 ⟨m4, hm4⟩
  have hb4 : Below w3.heap.size w3 w4 := by rw [hm4]; exact below_drewN (Below.refl _ _) m4
  clear hm4
  have hgb4 := hgb.out w4 (hb1.trans ((hb13.trans (hb4.mono hb13.size)).mono hb1.size))
  replace hgb4 := Lib.hid hgb4
  clear hgb
  go_wp2_with (go_at_call 54; refine Shut.out ?kb)
  unfold Shut
  refine hgb4.out.mono ?_
  rintro e w5 ⟨v5, rfl, hG5, hb5⟩
  have hb35 := hb4.trans (hb5.mono hb4.size)
  have hA5 := OwnL.below hA3 hb35 (Nat.le_refl _)
  have hb15 := hb13.trans (hb35.mono hb13.size)
  have q25 := (hb15.cell (p := ⟨ob, 2, none⟩) hob1).trans q2
  have hbw5 := hb1.trans (hb15.mono hb1.size)
  obtain ⟨aA, cA, rfl, hPA⟩ := OwnR.pra hA5
  obtain ⟨aG, cG, rfl, hPG⟩ := OwnR.pra hG5
  obtain ⟨nA, hnA⟩ : ∃ nA, nA = A.length := ⟨_, rfl⟩
  obtain ⟨nG, hnG⟩ : ∃ nG, nG = G.length := ⟨_, rfl⟩
  rw [← hnA] at hAl ⊢
  rw [← hnG]
  have hob5 : ob < w5.heap.size := Nat.lt_of_lt_of_le hob1 hb15.size
  replace hnA := Lib.hid hnA
  replace hnG := Lib.hid hnG
  clear hgb4 hA3 hA5 hG5 hb3 hb4 hb5 hb35 hb13 hb15 hb2 g1 q2b f0 f1 q0 q2
  dsimp only
  go_wp2_with fail
  go_loopw [10, 14] (fun x10 x14 wr => ∃ i : Nat, i ≤ nA ∧ x14 = .int .i64 i ∧ OwnR wr w5.heap.size x10 ((A.take i).filterMap f) ∧ Below w5.heap.size w5 wr) (fun _ x14 _ => nA - (intOf x14).toNat)
  case atStart => exact ⟨0, Nat.zero_le _, rfl, OwnL.nil _ _ _ _ _, Below.refl _ _⟩
  case round =>
    obtain ⟨i, hi, rfl, hO, hbr⟩ := hrel
    have hbw := hbw5.trans (hbr.mono hbw5.size)
    by_cases hin : i < nA
    · have d1 : decide ((i : Int) < (nA : Int)) = true := by simp; omega
      have hiA : i < A.length := by rw [← hnA.out]; exact hin
      obtain ⟨pb, po, rfl, hpb, _⟩ := hPA.addr (by omega)
      have hpbw : pb < wr.heap.size := Nat.lt_of_lt_of_le hpb hbr.size
      obtain ⟨p0, p1⟩ := PrA.at (hPA.imp' hbr (Nat.le_refl _)) hiA
      have hs := hst.out i hiA
      have hpo := hAok A[i] (List.getElem_mem hiA)
      obtain ⟨p, hp⟩ : ∃ p, p = A[i] := ⟨_, rfl⟩
      rw [← hp] at p0 p1 hs hpo
      rw [hfr.out] at hs
      have hfd := rfind_any G p.1 aG cG _ wr (hPG.imp' hbr (Nat.le_refl _))
      rw [← hnG.out] at hfd
      have q2r := (hbr.cell (p := ⟨ob, 2, none⟩) hob5).trans q25
      have hobr : ob < wr.heap.size := Nat.lt_of_lt_of_le hob5 hbr.size
      obtain ⟨xa, xc, rfl, -, -, -⟩ := hO.slice
      have hlen : ((A.take i).filterMap f).length ≤ i := Nat.le_trans (List.length_filterMap_le _ _) (by rw [List.length_take]; omega)
      obtain ⟨L, hL⟩ : ∃ L, L = (A.take i).filterMap f := ⟨_, rfl⟩
      rw [← hL] at hO hs hlen ⊢
      obtain ⟨nL, hnL⟩ : ∃ nL, nL = L.length := ⟨_, rfl⟩
      rw [← hnL] at hO hlen ⊢
      replace hp := Lib.hid hp
      replace hL := Lib.hid hL
      replace hnL := Lib.hid hnL
      cases hg : getL G p.1 with
      | none =>
        rw [hg] at hfd hs
        have hO2 : OwnR wr w5.heap.size (.slice xa nL xc) ((A.take (i + 1)).filterMap f) := by rw [hs]; exact hO
        replace hfd := Lib.hid hfd
        clear hs hg hO
        go_wp2_with (go_at_call 55; refine (hfd.out).mono ?_; rintro e w' ⟨rfl, hww⟩; obtain rfl : wr = w' := hww.symm; dsimp only)
        go_roundw
        case rel => exact ⟨i + 1, by omega, by go_num, hO2, hbr⟩
        case measure => simp [intOf]; omega
      | some vb =>
        rw [hg] at hfd hs
        have hvb : vb < 4294967296 := (hBok _ (getL_mem hg)).2
        have hjn := fun W => rjoin_any arg p.2 vb W hpo.2 hvb
        have hs2 : (A.take (i + 1)).filterMap f = L ++ [(p.1, joinN arg p.2 vb)] := hs
        obtain ⟨jv, hjv⟩ : ∃ jv, jv = joinN arg p.2 vb := ⟨_, rfl⟩
        rw [← hjv] at hjn hs2
        replace hs2 := Lib.hid hs2
        replace hjn := Lib.hid hjn
        replace hfd := Lib.hid hfd
        replace hjv := Lib.hid hjv
        clear hs hg
        go_wp2_with (go_at_call 55; refine (hfd.out).mono ?_; rintro e w' ⟨rfl, hww⟩; obtain rfl : wr = w' := hww.symm; dsimp only)
        go_upto_region 20 with fail
        have hO5 : OwnR wr.drew w5.heap.size (.slice xa nL xc) L := hO
        have hbr5 : Below w5.heap.size w5 wr.drew := hbr.drew
        refine wp_region_tree (fun wx => wx.cell? ⟨pb, po + i * 2, none⟩ = some (.string p.1) ∧ wx.cell? ⟨pb, po + i * 2 + 1, none⟩ = some (.int .u32 (p.2 : Nat)) ∧ wx.cell? ⟨ob, 2, none⟩ = some (.int .i64 arg)) 17 19 (by kernel_rfl) rfl (by kernel_rfl) (fun d _ _ _ _ h => by cases d <;> exact h) (⟨p0, p1, q2r⟩) (fun opz T hOps hT hTok hHeld => ?_)
        (refine wpTree_q 0 hTok hOps (by kernel_rfl) rfl rfl ⟨?_, ?_, ?_⟩; rotate_left; (focus (intro wx hSx; (try dsimp only at hSx); go_simp; (try with_reducible rfl))); (simp only [Act.put, List.setIfInBounds_toArray, List.set_cons_zero, List.set_cons_succ]))
        (refine wpTree_q 1 hTok hOps (by kernel_rfl) rfl rfl ⟨?_, ?_, ?_⟩; rotate_left; (focus (intro wx hSx; (try dsimp only at hSx); go_simp; (try with_reducible rfl))); (simp only [Act.put, List.setIfInBounds_toArray, List.set_cons_zero, List.set_cons_succ]))
        (refine wpTree_q 2 hTok hOps (by kernel_rfl) rfl rfl ⟨?_, ?_, ?_⟩; rotate_left; (focus (intro wx hSx; (try dsimp only at hSx); go_simp; (try with_reducible rfl))); (simp only [Act.put, List.setIfInBounds_toArray, List.set_cons_zero, List.set_cons_succ]))
        (refine wpTree_q 3 hTok hOps (by kernel_rfl) rfl rfl ⟨?_, ?_, ?_⟩; rotate_left; (focus (intro wx hSx; (try dsimp only at hSx); go_simp; (try with_reducible rfl))); (simp only [Act.put, List.setIfInBounds_toArray, List.set_cons_zero, List.set_cons_succ]))
        (refine wpTree_q 4 hTok hOps (by kernel_rfl) rfl rfl ⟨?_, ?_, ?_⟩; rotate_left; (focus (intro wx hSx; (try dsimp only at hSx); go_simp; (try with_reducible rfl))); (simp only [Act.put, List.setIfInBounds_toArray, List.set_cons_zero, List.set_cons_succ]))
        (refine wpTree_q 5 hTok hOps (by kernel_rfl) rfl rfl ⟨?_, ?_, ?_⟩; rotate_left; (focus (intro wx hSx; (try dsimp only at hSx); go_simp; (try with_reducible rfl))); (simp only [Act.put, List.setIfInBounds_toArray, List.set_cons_zero, List.set_cons_succ]))
        (refine wpTree_q 6 hTok hOps (by kernel_rfl) rfl rfl ⟨?_, ?_, ?_⟩; rotate_left; (focus (intro wx hSx; (try dsimp only at hSx); go_simp; (try with_reducible rfl))); (simp only [Act.put, List.setIfInBounds_toArray, List.set_cons_zero, List.set_cons_succ]))
        (refine wpTree_q 7 hTok hOps (by kernel_rfl) rfl rfl ⟨?_, ?_, ?_⟩; rotate_left; (focus (intro wx hSx; (try dsimp only at hSx); go_simp; (try with_reducible rfl))); (simp only [Act.put, List.setIfInBounds_toArray, List.set_cons_zero, List.set_cons_succ]))
        (refine wpTree_q 8 hTok hOps (by kernel_rfl) rfl rfl ⟨?_, ?_, ?_⟩; rotate_left; (focus (intro wx hSx; (try dsimp only at hSx); go_simp; (try with_reducible rfl))); (simp only [Act.put, List.setIfInBounds_toArray, List.set_cons_zero, List.set_cons_succ]))
        (refine wpTree_q 9 hTok hOps (by kernel_rfl) rfl rfl ⟨?_, ?_, ?_⟩; rotate_left; (focus (intro wx hSx; (try dsimp only at hSx); go_simp; (try with_reducible rfl))); (simp only [Act.put, List.setIfInBounds_toArray, List.set_cons_zero, List.set_cons_succ]))
        (refine wpTree_q 10 hTok hOps (by kernel_rfl) rfl rfl ⟨?_, ?_, ?_⟩; rotate_left; (focus (intro wx hSx; (try dsimp only at hSx); go_simp; (try with_reducible rfl))); (simp only [Act.put, List.setIfInBounds_toArray, List.set_cons_zero, List.set_cons_succ]))
        (refine wpTree_q 11 hTok hOps (by kernel_rfl) rfl rfl ⟨?_, ?_, ?_⟩; rotate_left; (focus (intro wx hSx; (try dsimp only at hSx); go_simp; (try with_reducible rfl))); (simp only [Act.put, List.setIfInBounds_toArray, List.set_cons_zero, List.set_cons_succ]))
        (refine wpTree_q 12 hTok hOps (by kernel_rfl) rfl rfl ⟨?_, ?_, ?_⟩; rotate_left; (focus (intro wx hSx; (try dsimp only at hSx); go_simp; (try with_reducible rfl))); (simp only [Act.put, List.setIfInBounds_toArray, List.set_cons_zero, List.set_cons_succ]))
        (refine wpTree_q 13 hTok hOps (by kernel_rfl) rfl rfl ⟨?_, ?_, ?_⟩; rotate_left; (focus (intro wx hSx; (try dsimp only at hSx); go_simp; (try with_reducible rfl))); (simp only [Act.put, List.setIfInBounds_toArray, List.set_cons_zero, List.set_cons_succ]))
        refine wpTree_1 14 hOps (by kernel_rfl) (by decide) rfl (fun K' hK => ?_)
        go_simp
        refine (hjn.out _).mono ?_
        rintro e w' ⟨rfl, hww⟩
        obtain rfl : wr.drew = w' := hww
        dsimp only
        refine hK.out _ _ ⟨p0, p1, q2r⟩ ?_
        clear hK K'
        try simp only [Act.put, List.setIfInBounds_toArray, List.set_cons_zero, List.set_cons_succ]
        (refine wpTree_q 15 hTok hOps (by kernel_rfl) rfl rfl ⟨?_, ?_, ?_⟩; rotate_left; (focus (intro wx hSx; (try dsimp only at hSx); go_simp; (try with_reducible rfl))); (simp only [Act.put, List.setIfInBounds_toArray, List.set_cons_zero, List.set_cons_succ]))
        refine wpTree_1 16 hOps (by kernel_rfl) (by decide) rfl (fun K' hK => ?_)
        go_simp
        refine hK.out _ _ ⟨(World.cell?_alloc_lt _ _ _ (by exact hpbw)).trans p0, (World.cell?_alloc_lt _ _ _ (by exact hpbw)).trans p1, (World.cell?_alloc_lt _ _ _ (by exact hobr)).trans q2r⟩ ?_
        clear hK K'
        try simp only [Act.put, List.setIfInBounds_toArray, List.set_cons_zero, List.set_cons_succ]
        refine wpTree_nil hOps (by kernel_rfl) ?_
        refine hT.out _ _ ?_
        simp only [List.drop_succ_cons, List.drop_zero]
        clear hOps hT hTok
        try clear hHeld
        clear hO hbr p0 p1 q2r hbw
        go_wp2_with (at_builtin; refine Shut.out ?kc)
        unfold Shut
        refine wpList_app1g rfl _ _ 29 rfl Try.underlying29 hiR hR0 hR1 hR2 rfl (by decide) (enc := encR) (p.1, jv) rfl hO5 rfl (encR_len _) (encR_one _) (by rw [← hnL.out]; omega) (by rw [← hnL.out]; unfold maxLen; omega) hbr5.size ?_
        intro g7 cap7 w7 hown7 hgr7
        have hb7 := hbr5.trans (hgr7.below hbr5.size (fun g e => (OwnL.lt hO5 g e).1))
        rw [← hnL.out] at hown7 ⊢
        replace hown7 : OwnR w7 w5.heap.size (.slice (some ⟨g7, 0, none⟩) (nL + 1) cap7) ((A.take (i + 1)).filterMap f) := by rw [hs2.out]; exact hown7
        clear hgr7 hO5 hbr5
        go_wp2_with fail
        go_roundw
        case rel => exact ⟨i + 1, by omega, by go_num, hown7, hb7⟩
        case measure => simp [intOf]; omega
    · have d1 : decide ((i : Int) < (nA : Int)) = false := by simp; omega
      have hti : A.take i = A := List.take_of_length_le (by have := hnA.out; omega)
      rw [hti] at hO
      clear hti
      go_wp2_with fail
      go_ret2
      exact ⟨_, _, _, rfl, OwnL.base_le hO hbw5.size, hperm.out, OwnL.nil _ _ _ _ _, hbw⟩
end Go.Proofs.Ytbianedgogdeeaa

/- Model: the document's op: operators of one input. -/
namespace Go.Proofs.Ytbianedgogdeeaa
open Go.RowKit Go.Maps Fold Go.Lib
attribute [local go_sem] Oper.semAt_some
set_option linter.unusedVariables false
set_option linter.unusedSimpArgs false

set_option maxRecDepth 100000 in
set_option maxHeartbeats 4000000 in
theorem rop_each (o : TOp) (kd : Int) (hk : o.fKind = kd) (k1 : o.fKind ≠ 1) (k4 : o.fKind ≠ 4) (k5 : o.fKind ≠ 5) (k6 : o.fKind ≠ 6) (recs : List TRecord) (I : ST) (a b kept : PRS) (ao ia ko ra : Option Addr) (cap ic kcap km rcap rm B : Nat) (w : World) (hB : B ≤ w.heap.size) (hI : StA w B ia ic I) (ha : I[0]? = some a) (hoka : okL a) (hza : a.length ≤ 100000) (hnu : o.fNum.toNat < 4294967296) (hlm : o.fLim.toNat < 4294967296) (hrd : o.fRounds.toNat ≤ 1000) :
    Calls Try.prog 37 #[opAgg o ao cap, .slice ia I.length ic, .slice ko km kcap, .slice ra rm rcap] w (ROPost (opOut o a b kept recs) (opKeep o a kept) w) := by
  have hout : opOut o a b kept recs = a.filterMap (oneP o) := by unfold opOut; rw [if_neg (by omega), if_neg (by omega), if_neg (by omega), if_neg (by omega)]
  have hkeep : opKeep o a kept = [] := opKeep_no (by omega) a kept
  rw [hout, hkeep]
  have hone := fun p W hv => rone_any o p ao cap W hnu hlm hrd hv
  have hst := fun i hi => fm_step (f := oneP o) (l := a) (i := i) hi
  have hOne : ∀ p w e w', OnePost o p w e w' = ∃ (v : Nat) (ok : Bool), e = .returned (.tuple #[.agg #[.string p.1, .int .u32 (v : Nat)], .bool ok]) ∧ oneP o p = (if ok then some (p.1, v) else none) ∧ v < 4294967296 ∧ Below w.heap.size w w' := fun p w e w' => rfl
  obtain ⟨f, hf⟩ : ∃ f, f = oneP o := ⟨_, rfl⟩
  rw [← hf] at hst hOne ⊢
  obtain ⟨Q, hQ⟩ : ∃ Q, Q = OnePost o := ⟨_, rfl⟩
  rw [← hQ] at hOne hone
  unfold opAgg at hone
  clear hf hQ
  obtain ⟨iR, hiR, hR0, hR1, hR2⟩ := partsR
  unfold opAgg
  obtain ⟨kind, ins, arg, num, rounds, test, lim⟩ := o
  dsimp only at *
  subst hk
  obtain ⟨il, hil⟩ : ∃ il, il = ins.length := ⟨_, rfl⟩
  rw [← hil]
  obtain ⟨nn, hnn⟩ : ∃ nn, nn = num.toNat := ⟨_, rfl⟩
  obtain ⟨R, hR⟩ : ∃ R, R = rounds.toNat := ⟨_, rfl⟩
  obtain ⟨ll, hll⟩ : ∃ ll, ll = lim.toNat := ⟨_, rfl⟩
  rw [← hnn, ← hR, ← hll]
  replace hil := Lib.hid hil
  replace hnn := Lib.hid hnn
  replace hR := Lib.hid hR
  replace hll := Lib.hid hll
  replace hout := Lib.hid hout
  replace hkeep := Lib.hid hkeep
  rw [← hil.out, ← hnn.out, ← hR.out, ← hll.out] at hone
  obtain ⟨ib, io, a0, c0, rfl, hib, e0, hPa, hi0⟩ := StA.get hI ha
  obtain ⟨im, him⟩ : ∃ im, im = I.length := ⟨_, rfl⟩
  rw [← him] at hi0 ⊢
  obtain ⟨na, hna⟩ : ∃ na, na = a.length := ⟨_, rfl⟩
  rw [← hna] at e0 hza
  rw [Nat.add_zero] at e0
  replace him := Lib.hid him
  replace hna := Lib.hid hna
  replace hone := Lib.hid hone
  replace hOne := Lib.hid hOne
  replace hst := Lib.hid hst
  have s1 : (kind == 1) = false := by simpa using k1
  have s4 : (kind == 4) = false := by simpa using k4
  have s5 : (kind == 5) = false := by simpa using k5
  have s6 : (kind == 6) = false := by simpa using k6
  clear hI ha k1 k4 k5 k6
  go_enter Try.func37, Try.ntmps37
  go_upto_region 1 with fail
  refine Code.wp_world ?_
  intro w1 hw1
  have hb1 : Below w.heap.size w w1 := by rw [hw1]; exact belowAlloc _ _
  have hQ1 : Blk w1 w.heap.size #[.int .i64 kind, .slice ao il cap, .int .i64 arg, .int .u32 nn, .int .i64 R, .int .i64 test, .int .u32 ll] 51 := by rw [hw1]; exact Blk.new _ _ _
  obtain ⟨ob, hob⟩ : ∃ ob, ob = w.heap.size := ⟨_, rfl⟩
  have hob1 : ob < w1.heap.size := by rw [hob]; exact hQ1.lt
  rw [← hob] at hQ1 ⊢
  have q0 := hQ1.cellAt (i := 0) (v := .int .i64 kind) rfl
  have q2 := hQ1.cellAt (i := 2) (v := .int .i64 arg) rfl
  replace hob := Lib.hid hob
  clear hw1
  have f0 := (hb1.cell (p := ⟨ib, io, none⟩) (by simp; omega)).trans e0
  have hibw : ib < w1.heap.size := by have := hb1.size; omega
  have q1 := hQ1.cellAt (i := 1) (v := .slice ao il cap) rfl
  have q3 := hQ1.cellAt (i := 3) (v := .int .u32 nn) rfl
  have q4 := hQ1.cellAt (i := 4) (v := .int .i64 R) rfl
  have q5 := hQ1.cellAt (i := 5) (v := .int .i64 test) rfl
  have q6 := hQ1.cellAt (i := 6) (v := .int .u32 ll) rfl
  clear e0
  go_wp2_with fail
  go_loopw [10, 17] (fun x10 x17 wr => ∃ i : Nat, i ≤ na ∧ x17 = .int .i64 i ∧ OwnR wr w1.heap.size x10 ((a.take i).filterMap f) ∧ Below w1.heap.size w1 wr) (fun _ x17 _ => na - (intOf x17).toNat)
  case atStart => exact ⟨0, Nat.zero_le _, rfl, OwnL.nil _ _ _ _ _, Below.refl _ _⟩
  case round =>
    obtain ⟨i, hi, rfl, hO, hbr⟩ := hrel
    have hbw := hb1.trans (hbr.mono hb1.size)
    have f0r := (hbr.cell (p := ⟨ib, io, none⟩) hibw).trans f0
    by_cases hin : i < na
    · have d1 : decide ((i : Int) < (na : Int)) = true := by simp; omega
      have hia : i < a.length := by rw [← hna.out]; exact hin
      obtain ⟨pb, po, rfl, hpb, _⟩ := hPa.addr (by omega)
      have hpbw : pb < wr.heap.size := by have := hbw.size; omega
      obtain ⟨p0, p1⟩ := PrA.at (hPa.imp' (hbw.mono hB) (Nat.le_refl _)) hia
      have hs := hst.out i hia
      have hpo := hoka a[i] (List.getElem_mem hia)
      obtain ⟨p, hp⟩ : ∃ p, p = a[i] := ⟨_, rfl⟩
      rw [← hp] at p0 p1 hs hpo
      obtain ⟨xa, xc, rfl, -, -, -⟩ := hO.slice
      have hlen : ((a.take i).filterMap f).length ≤ i := Nat.le_trans (List.length_filterMap_le _ _) (by rw [List.length_take]; omega)
      obtain ⟨L, hL⟩ : ∃ L, L = (a.take i).filterMap f := ⟨_, rfl⟩
      rw [← hL] at hO hs hlen ⊢
      obtain ⟨nL, hnL⟩ : ∃ nL, nL = L.length := ⟨_, rfl⟩
      rw [← hnL] at hO hlen ⊢
      have hon := fun W => hone.out p W hpo.2
      have hS : ∀ W, Below wr.heap.size wr W → (W.cell? ⟨ob, 0, none⟩ = some (.int .i64 kind) ∧ W.cell? ⟨ob, 1, none⟩ = some (.slice ao il cap) ∧ W.cell? ⟨ob, 2, none⟩ = some (.int .i64 arg) ∧ W.cell? ⟨ob, 3, none⟩ = some (.int .u32 nn) ∧ W.cell? ⟨ob, 4, none⟩ = some (.int .i64 R) ∧ W.cell? ⟨ob, 5, none⟩ = some (.int .i64 test) ∧ W.cell? ⟨ob, 6, none⟩ = some (.int .u32 ll)) ∧ W.cell? ⟨ib, io, none⟩ = some (.slice (some ⟨pb, po, none⟩) na c0) ∧ W.cell? ⟨pb, po + i * 2, none⟩ = some (.string p.1) ∧ W.cell? ⟨pb, po + i * 2 + 1, none⟩ = some (.int .u32 (p.2 : Nat)) := fun W hW => by
        have hbW := hbr.trans (hW.mono hbr.size)
        exact ⟨⟨(hbW.cell (p := ⟨ob, 0, none⟩) hob1).trans q0, (hbW.cell (p := ⟨ob, 1, none⟩) hob1).trans q1, (hbW.cell (p := ⟨ob, 2, none⟩) hob1).trans q2, (hbW.cell (p := ⟨ob, 3, none⟩) hob1).trans q3, (hbW.cell (p := ⟨ob, 4, none⟩) hob1).trans q4, (hbW.cell (p := ⟨ob, 5, none⟩) hob1).trans q5, (hbW.cell (p := ⟨ob, 6, none⟩) hob1).trans q6⟩, (hbW.cell (p := ⟨ib, io, none⟩) hibw).trans f0, (hW.cell (p := ⟨pb, po + i * 2, none⟩) hpbw).trans p0, (hW.cell (p := ⟨pb, po + i * 2 + 1, none⟩) hpbw).trans p1⟩
      replace hp := Lib.hid hp
      replace hL := Lib.hid hL
      replace hnL := Lib.hid hnL
      replace hs := Lib.hid hs
      replace hon := Lib.hid hon
      have hS0 := hS wr (Below.refl _ _)
      replace hS := Lib.hid hS
      go_wp2_with fail
      go_upto_region 27 with fail
      refine wp_region_tree (fun wx => (wx.cell? ⟨ob, 0, none⟩ = some (.int .i64 kind) ∧ wx.cell? ⟨ob, 1, none⟩ = some (.slice ao il cap) ∧ wx.cell? ⟨ob, 2, none⟩ = some (.int .i64 arg) ∧ wx.cell? ⟨ob, 3, none⟩ = some (.int .u32 nn) ∧ wx.cell? ⟨ob, 4, none⟩ = some (.int .i64 R) ∧ wx.cell? ⟨ob, 5, none⟩ = some (.int .i64 test) ∧ wx.cell? ⟨ob, 6, none⟩ = some (.int .u32 ll)) ∧ wx.cell? ⟨ib, io, none⟩ = some (.slice (some ⟨pb, po, none⟩) na c0) ∧ wx.cell? ⟨pb, po + i * 2, none⟩ = some (.string p.1) ∧ wx.cell? ⟨pb, po + i * 2 + 1, none⟩ = some (.int .u32 (p.2 : Nat))) 13 14 (by kernel_rfl) rfl (by kernel_rfl) (fun d _ _ _ _ h => by cases d <;> exact h) (hS0) (fun opz T hOps hT hTok hHeld => ?_)
      (refine wpTree_q 0 hTok hOps (by kernel_rfl) rfl rfl ⟨?_, ?_, ?_⟩; rotate_left; (focus (intro wx hSx; (try dsimp only at hSx); go_simp; (try with_reducible rfl))); (simp only [Act.put, List.setIfInBounds_toArray, List.set_cons_zero, List.set_cons_succ]))
      (refine wpTree_q 1 hTok hOps (by kernel_rfl) rfl rfl ⟨?_, ?_, ?_⟩; rotate_left; (focus (intro wx hSx; (try dsimp only at hSx); go_simp; (try with_reducible rfl))); (simp only [Act.put, List.setIfInBounds_toArray, List.set_cons_zero, List.set_cons_succ]))
      (refine wpTree_q 2 hTok hOps (by kernel_rfl) rfl rfl ⟨?_, ?_, ?_⟩; rotate_left; (focus (intro wx hSx; (try dsimp only at hSx); go_simp; (try with_reducible rfl))); (simp only [Act.put, List.setIfInBounds_toArray, List.set_cons_zero, List.set_cons_succ]))
      (refine wpTree_q 3 hTok hOps (by kernel_rfl) rfl rfl ⟨?_, ?_, ?_⟩; rotate_left; (focus (intro wx hSx; (try dsimp only at hSx); go_simp; (try with_reducible rfl))); (simp only [Act.put, List.setIfInBounds_toArray, List.set_cons_zero, List.set_cons_succ]))
      (refine wpTree_q 4 hTok hOps (by kernel_rfl) rfl rfl ⟨?_, ?_, ?_⟩; rotate_left; (focus (intro wx hSx; (try dsimp only at hSx); go_simp; (try with_reducible rfl))); (simp only [Act.put, List.setIfInBounds_toArray, List.set_cons_zero, List.set_cons_succ]))
      (refine wpTree_q 5 hTok hOps (by kernel_rfl) rfl rfl ⟨?_, ?_, ?_⟩; rotate_left; (focus (intro wx hSx; (try dsimp only at hSx); go_simp; (try with_reducible rfl))); (simp only [Act.put, List.setIfInBounds_toArray, List.set_cons_zero, List.set_cons_succ]))
      (refine wpTree_q 6 hTok hOps (by kernel_rfl) rfl rfl ⟨?_, ?_, ?_⟩; rotate_left; (focus (intro wx hSx; (try dsimp only at hSx); go_simp; (try with_reducible rfl))); (simp only [Act.put, List.setIfInBounds_toArray, List.set_cons_zero, List.set_cons_succ]))
      clear hS0
      refine wpTree_2 7 11 hOps (by kernel_rfl) (by decide) (by decide) rfl rfl (fun K' hK => ?_) (fun K' hK => ?_)
      · go_simp
        refine (hon.out _).mono ?_
        rintro e w7 hQ7
        rw [hOne.out] at hQ7
        obtain ⟨v, ok, rfl, hfo, hvl, hb7⟩ := hQ7
        have hb67 : Below wr.heap.size wr w7 := (Below.refl _ _).drew.trans hb7
        dsimp only
        refine hK.out _ _ (hS.out _ hb67) ?_
        clear hK K' hb7
        try simp only [Act.put, List.setIfInBounds_toArray, List.set_cons_zero, List.set_cons_succ]
        (refine wpTree_q 8 hTok hOps (by kernel_rfl) rfl rfl ⟨?_, ?_, ?_⟩; rotate_left; (focus (intro wx hSx; (try dsimp only at hSx); go_simp; (try with_reducible rfl))); (simp only [Act.put, List.setIfInBounds_toArray, List.set_cons_zero, List.set_cons_succ]))
        (refine wpTree_q 9 hTok hOps (by kernel_rfl) rfl rfl ⟨?_, ?_, ?_⟩; rotate_left; (focus (intro wx hSx; (try dsimp only at hSx); go_simp; (try with_reducible rfl))); (simp only [Act.put, List.setIfInBounds_toArray, List.set_cons_zero, List.set_cons_succ]))
        (refine wpTree_q 10 hTok hOps (by kernel_rfl) rfl rfl ⟨?_, ?_, ?_⟩; rotate_left; (focus (intro wx hSx; (try dsimp only at hSx); go_simp; (try with_reducible rfl))); (simp only [Act.put, List.setIfInBounds_toArray, List.set_cons_zero, List.set_cons_succ]))
        refine wpTree_1 11 hOps (by kernel_rfl) (by decide) rfl (fun K' hK => ?_)
        go_simp
        have hb8' : Below w7.heap.size w7 (w7.alloc (.cells #[.string ⟨#[]⟩, .int .u32 0] 53)) := belowAlloc _ _
        have hbr8 := hb67.trans (hb8'.mono hb67.size)
        refine hK.out _ _ (hS.out _ hbr8) ?_
        have hz8 : Blk (w7.alloc (.cells #[.string ⟨#[]⟩, .int .u32 0] 53)) w7.heap.size #[.string ⟨#[]⟩, .int .u32 0] 53 := Blk.new _ _ _
        obtain ⟨zz, hzz⟩ : ∃ zz, zz = w7.heap.size := ⟨_, rfl⟩
        have hzr : wr.heap.size ≤ zz := by rw [hzz]; exact hb67.size
        rw [← hzz] at hz8 ⊢
        obtain ⟨w8, hw8⟩ : ∃ w8, w8 = w7.alloc (.cells #[.string ⟨#[]⟩, .int .u32 0] 53) := ⟨_, rfl⟩
        rw [← hw8] at hz8 hbr8 ⊢
        have hO8 := OwnL.below hO hbr8 (Nat.le_refl _)
        have hb8 := hbr.trans (hbr8.mono hbr.size)
        have hzw1 : w1.heap.size ≤ zz := Nat.le_trans hbr.size hzr
        replace hzz := Lib.hid hzz
        replace hw8 := Lib.hid hw8
        clear hK K' hb8' hb67
        try simp only [Act.put, List.setIfInBounds_toArray, List.set_cons_zero, List.set_cons_succ]
        have z0 := hz8.cellAt (i := 0) (v := .string ⟨#[]⟩) rfl
        have z1 := hz8.cellAt (i := 1) (v := .int .u32 0) rfl
        have zf0 := hz8.frozen 0
        have zf1 := hz8.frozen 1
        obtain ⟨w9, hw9⟩ : ∃ w9, w9 = (w8.setCell ⟨zz, 0, none⟩ (.string p.1)).setCell ⟨zz, 1, none⟩ (.int .u32 (v : Nat)) := ⟨_, rfl⟩
        have hc9a : Chg (fun k => k = zz) w8 (w8.setCell ⟨zz, 0, none⟩ (.string p.1)) := (Chg.refl _ _).setCell _ _ (fun _ => rfl)
        have hc9 : Chg (fun k => k = zz) w8 w9 := by rw [hw9]; exact hc9a.setCell _ _ (fun _ => rfl)
        have hO9 := OwnL.chg hO8 hc9 (fun g e e2 => by have := (OwnL.lt hO g e).2; omega)
        have hb9 : Below w1.heap.size w1 w9 := by rw [hw9]; exact (hb8.setCell (by simp; omega) _).setCell (by simp; omega) _
        have hz9 : Blk w9 zz #[.string p.1, .int .u32 (v : Nat)] 53 := by rw [hw9]; exact Blk.set (Blk.set hz8 0 _) 1 _
        have hbr9 : Below wr.heap.size wr w9 := by rw [hw9]; exact (hbr8.setCell (by simp; omega) _).setCell (by simp; omega) _
        clear hc9 hc9a
        refine wpTree_1 12 hOps (by kernel_rfl) (by decide) rfl (fun K' hK => ?_)
        go_simp
        refine hK.out _ _ (by rw [← hw9]; exact hS.out _ hbr9) ?_
        clear hK K'
        try simp only [Act.put, List.setIfInBounds_toArray, List.set_cons_zero, List.set_cons_succ]
        refine wpTree_nil hOps (by kernel_rfl) ?_
        refine hT.out _ _ ?_
        simp only [List.drop_succ_cons, List.drop_zero]
        clear hOps hT hTok
        try clear hHeld
        rw [← hw9]
        clear hw9 z0 z1 zf0 zf1 hz8
        cases ok with
        | false =>
          have hs2 : (a.take (i + 1)).filterMap f = L := by rw [hs.out, hfo]; rfl
          rw [← hs2] at hO9
          clear hs hs2 hfo hO8 hO hbr hz9
          go_wp2_with fail
          go_roundw
          case rel => exact ⟨i + 1, by omega, by go_num, hO9, hb9⟩
          case measure => simp [intOf]; omega
        | true =>
          have hs2 : (a.take (i + 1)).filterMap f = L ++ [(p.1, v)] := by rw [hs.out, hfo]; rfl
          replace hs2 := Lib.hid hs2
          clear hs hfo hO8 hO hbr
          have y0 := hz9.cellAt (i := 0) (v := .string p.1) rfl
          have y1 := hz9.cellAt (i := 1) (v := .int .u32 (v : Nat)) rfl
          go_wp2_with (at_builtin; refine Shut.out ?ka)
          unfold Shut
          refine wpList_app1g rfl _ _ 29 rfl Try.underlying29 hiR hR0 hR1 hR2 rfl (by decide) (enc := encR) (p.1, v) rfl hO9 rfl (encR_len _) (encR_one _) (by rw [← hnL.out]; omega) (by rw [← hnL.out]; unfold maxLen; omega) hb9.size ?_
          intro g7 cap7 w7 hown7 hgr7
          have hb7 := hb9.trans (hgr7.below hb9.size (fun g e => (OwnL.lt hO9 g e).1))
          rw [← hnL.out] at hown7 ⊢
          replace hown7 : OwnR w7 w1.heap.size (.slice (some ⟨g7, 0, none⟩) (nL + 1) cap7) ((a.take (i + 1)).filterMap f) := by rw [hs2.out]; exact hown7
          clear hgr7 hO9 hb9
          go_wp2_with fail
          go_roundw
          case rel => exact ⟨i + 1, by omega, by go_num, hown7, hb7⟩
          case measure => simp [intOf]; omega
      · go_simp
        have hb7 : Below wr.heap.size wr (wr.alloc (.cells #[.string ⟨#[]⟩, .int .u32 0] 53)).drew := (belowAlloc _ _).drew
        have hz7 : Blk (wr.alloc (.cells #[.string ⟨#[]⟩, .int .u32 0] 53)).drew wr.heap.size #[.string ⟨#[]⟩, .int .u32 0] 53 := (Blk.new wr _ _).drew
        refine hK.out _ _ (hS.out _ hb7) ?_
        obtain ⟨zz, hzz⟩ : ∃ zz, zz = wr.heap.size := ⟨_, rfl⟩
        have hzr : wr.heap.size ≤ zz := by rw [hzz]; exact Nat.le_refl _
        rw [← hzz] at hz7 ⊢
        obtain ⟨w7, hw7⟩ : ∃ w7, w7 = (wr.alloc (.cells #[.string ⟨#[]⟩, .int .u32 0] 53)).drew := ⟨_, rfl⟩
        rw [← hw7] at hz7 hb7 ⊢
        have hzw1 : w1.heap.size ≤ zz := Nat.le_trans hbr.size hzr
        replace hzz := Lib.hid hzz
        replace hw7 := Lib.hid hw7
        clear hK K'
        try simp only [Act.put, List.setIfInBounds_toArray, List.set_cons_zero, List.set_cons_succ]
        refine wpTree_1 7 hOps (by kernel_rfl) (by decide) rfl (fun K' hK => ?_)
        go_simp
        refine (hon.out _).mono ?_
        rintro e w8 hQ7
        rw [hOne.out] at hQ7
        obtain ⟨v, ok, rfl, hfo, hvl, hb8'⟩ := hQ7
        have hbr8 := hb7.trans (hb8'.mono hb7.size)
        dsimp only
        refine hK.out _ _ (hS.out _ hbr8) ?_
        have hO8 := OwnL.below hO hbr8 (Nat.le_refl _)
        have hb8 := hbr.trans (hbr8.mono hbr.size)
        have hz8 := hz7.below hb8' hz7.lt
        clear hK K' hb8' hb7 hz7
        try simp only [Act.put, List.setIfInBounds_toArray, List.set_cons_zero, List.set_cons_succ]
        (refine wpTree_q 8 hTok hOps (by kernel_rfl) rfl rfl ⟨?_, ?_, ?_⟩; rotate_left; (focus (intro wx hSx; (try dsimp only at hSx); go_simp; (try with_reducible rfl))); (simp only [Act.put, List.setIfInBounds_toArray, List.set_cons_zero, List.set_cons_succ]))
        (refine wpTree_q 9 hTok hOps (by kernel_rfl) rfl rfl ⟨?_, ?_, ?_⟩; rotate_left; (focus (intro wx hSx; (try dsimp only at hSx); go_simp; (try with_reducible rfl))); (simp only [Act.put, List.setIfInBounds_toArray, List.set_cons_zero, List.set_cons_succ]))
        (refine wpTree_q 10 hTok hOps (by kernel_rfl) rfl rfl ⟨?_, ?_, ?_⟩; rotate_left; (focus (intro wx hSx; (try dsimp only at hSx); go_simp; (try with_reducible rfl))); (simp only [Act.put, List.setIfInBounds_toArray, List.set_cons_zero, List.set_cons_succ]))
        have z0 := hz8.cellAt (i := 0) (v := .string ⟨#[]⟩) rfl
        have z1 := hz8.cellAt (i := 1) (v := .int .u32 0) rfl
        have zf0 := hz8.frozen 0
        have zf1 := hz8.frozen 1
        obtain ⟨w9, hw9⟩ : ∃ w9, w9 = (w8.setCell ⟨zz, 0, none⟩ (.string p.1)).setCell ⟨zz, 1, none⟩ (.int .u32 (v : Nat)) := ⟨_, rfl⟩
        have hc9a : Chg (fun k => k = zz) w8 (w8.setCell ⟨zz, 0, none⟩ (.string p.1)) := (Chg.refl _ _).setCell _ _ (fun _ => rfl)
        have hc9 : Chg (fun k => k = zz) w8 w9 := by rw [hw9]; exact hc9a.setCell _ _ (fun _ => rfl)
        have hO9 := OwnL.chg hO8 hc9 (fun g e e2 => by have := (OwnL.lt hO g e).2; omega)
        have hb9 : Below w1.heap.size w1 w9 := by rw [hw9]; exact (hb8.setCell (by simp; omega) _).setCell (by simp; omega) _
        have hz9 : Blk w9 zz #[.string p.1, .int .u32 (v : Nat)] 53 := by rw [hw9]; exact Blk.set (Blk.set hz8 0 _) 1 _
        have hbr9 : Below wr.heap.size wr w9 := by rw [hw9]; exact (hbr8.setCell (by simp; omega) _).setCell (by simp; omega) _
        clear hc9 hc9a
        refine wpTree_1 12 hOps (by kernel_rfl) (by decide) rfl (fun K' hK => ?_)
        go_simp
        refine hK.out _ _ (by rw [← hw9]; exact hS.out _ hbr9) ?_
        clear hK K'
        try simp only [Act.put, List.setIfInBounds_toArray, List.set_cons_zero, List.set_cons_succ]
        refine wpTree_nil hOps (by kernel_rfl) ?_
        refine hT.out _ _ ?_
        simp only [List.drop_succ_cons, List.drop_zero]
        clear hOps hT hTok
        try clear hHeld
        rw [← hw9]
        clear hw9 z0 z1 zf0 zf1 hz8
        cases ok with
        | false =>
          have hs2 : (a.take (i + 1)).filterMap f = L := by rw [hs.out, hfo]; rfl
          rw [← hs2] at hO9
          clear hs hs2 hfo hO8 hO hbr hz9
          go_wp2_with fail
          go_roundw
          case rel => exact ⟨i + 1, by omega, by go_num, hO9, hb9⟩
          case measure => simp [intOf]; omega
        | true =>
          have hs2 : (a.take (i + 1)).filterMap f = L ++ [(p.1, v)] := by rw [hs.out, hfo]; rfl
          replace hs2 := Lib.hid hs2
          clear hs hfo hO8 hO hbr
          have y0 := hz9.cellAt (i := 0) (v := .string p.1) rfl
          have y1 := hz9.cellAt (i := 1) (v := .int .u32 (v : Nat)) rfl
          go_wp2_with (at_builtin; refine Shut.out ?kb)
          unfold Shut
          refine wpList_app1g rfl _ _ 29 rfl Try.underlying29 hiR hR0 hR1 hR2 rfl (by decide) (enc := encR) (p.1, v) rfl hO9 rfl (encR_len _) (encR_one _) (by rw [← hnL.out]; omega) (by rw [← hnL.out]; unfold maxLen; omega) hb9.size ?_
          intro g7 cap7 w7 hown7 hgr7
          have hb7 := hb9.trans (hgr7.below hb9.size (fun g e => (OwnL.lt hO9 g e).1))
          rw [← hnL.out] at hown7 ⊢
          replace hown7 : OwnR w7 w1.heap.size (.slice (some ⟨g7, 0, none⟩) (nL + 1) cap7) ((a.take (i + 1)).filterMap f) := by rw [hs2.out]; exact hown7
          clear hgr7 hO9 hb9
          go_wp2_with fail
          go_roundw
          case rel => exact ⟨i + 1, by omega, by go_num, hown7, hb7⟩
          case measure => simp [intOf]; omega
    · have d1 : decide ((i : Int) < (na : Int)) = false := by simp; omega
      have hti : a.take i = a := List.take_of_length_le (by have := hna.out; omega)
      rw [hti] at hO
      clear hti
      go_wp2_with fail
      go_ret2
      exact ⟨_, _, _, rfl, OwnL.base_le hO hb1.size, .refl _, OwnL.nil _ _ _ _ _, hbw⟩
end Go.Proofs.Ytbianedgogdeeaa
