/- Model: a loop of Run (the closure 'at'). -/
import Derived.Test.YtbianedgogdeeaaMm
namespace Go.Proofs.Ytbianedgogdeeaa
open Go.RowKit Go.Maps Fold Go.Lib
attribute [local go_sem] Oper.semAt_some
set_option linter.unusedVariables false
set_option linter.unusedSimpArgs false

set_option maxRecDepth 100000 in
set_option maxHeartbeats 4000000 in
theorem at_loop {B n i : Nat} {d : RD} {ops : List TOp} {s : ST} {recs : List TRecord} {vs ns : List Value} (w : World) (h : RunW w B d n ops s recs vs ns) (hi : i < n) (o : TOp) (ho : ops[i]? = some o) (hk : o.fKind = 7)
    (hnil : ns[i]? = some (.slice none 0 0)) (a b kept : PRS) (ha : InAt w o.fIn vs 0 a) (hr1 : 0 ≤ o.fRounds) (hr2 : o.fRounds ≤ 1000) :
    Calls Try.prog 28 (d.args i) w (AtPost w B d n ops s recs vs ns i (opOut o a b kept recs) (opKeep o a kept)) := by
  obtain ⟨R, hR⟩ : ∃ R : Nat, o.fRounds = R := ⟨o.fRounds.toNat, by omega⟩
  rw [hR] at hr2
  clear hr1
  have hout : opOut o a b kept recs = a.filterMap (oneP o) := by unfold opOut; rw [if_neg (by omega), if_neg (by omega), if_neg (by omega), if_neg (by omega)]
  have hkeep : opKeep o a kept = [] := opKeep_no (by omega) a kept
  have hset := set_nil hnil
  obtain ⟨cso, hoc⟩ := SlA.all h.hops o (List.mem_of_getElem? ho)
  obtain ⟨nn, ll, hnn, hll, hnlt, hllt⟩ := op_wf hoc
  clear hoc
  obtain ⟨iR, hiR, hR0, hR1, hR2⟩ := partsR
  have hio : i < ops.length := by rw [← h.len]; exact hi
  have hoe : ops[i] = o := by rw [List.getElem?_eq_getElem hio] at ho; simpa using ho
  obtain ⟨gb, goff, hga, hgb, hgc⟩ := h.hops.addr (by omega)
  have hget := h.hops
  rw [hga] at hget
  obtain ⟨ia, ic, k0, k1, k2, k3, k4, k5, k6, _, hins, _⟩ := ROp.at hget hio hoe
  have g0 := h.g.cellAt (i := 0) (v := .slice d.ga n d.gcap) rfl
  rw [hga] at g0
  have hBw := h.hB
  have hgbw : gb < w.heap.size := by omega
  obtain ⟨kind, ins, arg, num, rounds, test, lim⟩ := o
  dsimp only at hk k0 k1 k2 k3 k4 k5 k6 hins
  subst hk
  unfold RD.args
  replace hout := Lib.hid hout
  replace hkeep := Lib.hid hkeep
  replace hset := Lib.hid hset
  replace hga := Lib.hid hga
  replace ho := Lib.hid ho
  replace hoe := Lib.hid hoe
  replace hnil := Lib.hid hnil
  replace h := Lib.hid h
  clear hget hgc
  obtain ⟨il, hil⟩ : ∃ il, il = ins.length := ⟨_, rfl⟩
  rw [← hil] at k1
  replace hil := Lib.hid hil
  go_enter Try.func28, Try.ntmps28
  go_upto_region 2 with fail
  refine Code.wp_world ?_
  intro w1 hw1
  have hb1 : Below w.heap.size w w1 := by rw [hw1]; exact belowAlloc _ _
  have hQ1 : Blk w1 w.heap.size #[.int .i64 7, .slice ia il ic, .int .i64 arg, .int .u32 num, .int .i64 rounds, .int .i64 test, .int .u32 lim] 51 := by rw [hw1]; exact Blk.new _ _ _
  obtain ⟨ob, hob⟩ : ∃ ob, ob = w.heap.size := ⟨_, rfl⟩
  have hob1 : ob < w1.heap.size := by rw [hob]; exact hQ1.lt
  rw [← hob] at hQ1 ⊢
  have q0 := hQ1.cellAt (i := 0) (v := .int .i64 7) rfl
  have q1 := hQ1.cellAt (i := 1) (v := .slice ia il ic) rfl
  have q2 := hQ1.cellAt (i := 2) (v := .int .i64 arg) rfl
  have q3 := hQ1.cellAt (i := 3) (v := .int .u32 num) rfl
  have q4 := hQ1.cellAt (i := 4) (v := .int .i64 rounds) rfl
  have q5 := hQ1.cellAt (i := 5) (v := .int .i64 test) rfl
  have q6 := hQ1.cellAt (i := 6) (v := .int .u32 lim) rfl
  replace hob := Lib.hid hob
  clear hw1 k0 k1 k2 k3 k4 k5 k6 g0
  dsimp only at hnn hll
  subst hnn hll
  obtain ⟨ao, ac, hca, hPa, hoka, hla⟩ := in_call h.out hins ha
  try dsimp only at hca
  rw [← hil.out] at hca
  have hca1 := hca w1 ob hb1 q1
  obtain ⟨na, hna⟩ : ∃ na, na = a.length := ⟨_, rfl⟩
  rw [← hna] at hca1 hla
  replace hna := Lib.hid hna
  replace hca1 := Lib.hid hca1
  clear hca ha
  go_wp2_with fail
  refine hca1.out.mono ?_
  rintro e w2 ⟨rfl, hb2⟩
  have hb12 := hb1.trans (hb2.mono hb1.size)
  have hP2 := hPa w2 hb12
  have hb2s := hb12.size
  replace q0 := (hb2.cell (p := ⟨ob, 0, none⟩) hob1).trans q0
  replace q2 := (hb2.cell (p := ⟨ob, 2, none⟩) hob1).trans q2
  replace q3 := (hb2.cell (p := ⟨ob, 3, none⟩) hob1).trans q3
  replace q4 := (hb2.cell (p := ⟨ob, 4, none⟩) hob1).trans q4
  replace q5 := (hb2.cell (p := ⟨ob, 5, none⟩) hob1).trans q5
  replace q6 := (hb2.cell (p := ⟨ob, 6, none⟩) hob1).trans q6
  replace q1 := (hb2.cell (p := ⟨ob, 1, none⟩) hob1).trans q1
  have hob2 := Nat.lt_of_lt_of_le hob1 hb2.size
  clear hca1
  dsimp only
  go_wp2_with fail
  go_loopw [10, 27] (fun x10 x27 wr => ∃ j : Nat, j ≤ na ∧ x27 = .int .i64 j ∧ OwnR wr w2.heap.size x10 ((a.take j).filterMap (oneP ⟨7, ins, arg, nn, rounds, test, ll⟩)) ∧ Below w2.heap.size w2 wr) (fun _ x27 _ => na - (intOf x27).toNat)
  case atStart => exact ⟨0, Nat.zero_le _, rfl, OwnL.nil _ _ _ _ _, Below.refl _ _⟩
  case round =>
    obtain ⟨j, hj, rfl, hown, hbr⟩ := hrel
    by_cases hjn : j < na
    · have d1 : decide ((j : Int) < (na : Int)) = true := by simp; omega
      have hja : j < a.length := by rw [← hna.out]; exact hjn
      obtain ⟨ab, aoff, rfl, hab, _⟩ := hP2.addr (by omega)
      obtain ⟨p, hp⟩ : ∃ p, a[j] = p := ⟨_, rfl⟩
      obtain ⟨e0, e1⟩ := PrA.at (hP2.imp' (hbr.mono hb2s) (Nat.le_refl _)) hja
      obtain ⟨hkm, hu⟩ := hoka p (by rw [← hp]; exact List.getElem_mem hja)
      rw [hp] at e0 e1
      obtain ⟨k, u⟩ := p
      dsimp only at e0 e1 hkm hu
      obtain ⟨L, hL⟩ : ∃ L, L = (a.take j).filterMap (oneP ⟨7, ins, arg, nn, rounds, test, ll⟩) := ⟨_, rfl⟩
      rw [← hL] at hown
      have hLl : L.length ≤ na := by
        have h1 := List.length_filterMap_le (oneP ⟨7, ins, arg, nn, rounds, test, ll⟩) (a.take j)
        rw [List.length_take, ← hL] at h1
        omega
      have habw : ab < wr.heap.size := by have := hbr.size; omega
      have hobw := Nat.lt_of_lt_of_le hob2 hbr.size
      have q0r := (hbr.cell (p := ⟨ob, 0, none⟩) hob2).trans q0
      have q1r := (hbr.cell (p := ⟨ob, 1, none⟩) hob2).trans q1
      have q2r := (hbr.cell (p := ⟨ob, 2, none⟩) hob2).trans q2
      have q3r := (hbr.cell (p := ⟨ob, 3, none⟩) hob2).trans q3
      have q4r := (hbr.cell (p := ⟨ob, 4, none⟩) hob2).trans q4
      have q5r := (hbr.cell (p := ⟨ob, 5, none⟩) hob2).trans q5
      have q6r := (hbr.cell (p := ⟨ob, 6, none⟩) hob2).trans q6
      clear q0 q1 q2 q3 q4 q5 q6
      replace hp := Lib.hid hp
      replace hL := Lib.hid hL
      go_upto_region 8 with fail
      refine Code.wp_world ?_
      intro w5 hw5
      have hb5 : Below wr.heap.size wr w5 := by rw [hw5]; exact belowAlloc _ _
      have hB5 : Blk w5 wr.heap.size #[.string k, .int .u32 (u : Nat)] 53 := by rw [hw5]; exact Blk.new _ _ _
      have hown5 := hown.below hb5 (Nat.le_refl _)
      have hbr5 := hbr.trans (hb5.mono hbr.size)
      have hzl := hbr.size
      have hbelow := Lib.hid (fun g (e : Value.ownBlock _ = some g) => Nat.ne_of_lt (hown.lt g e).2)
      obtain ⟨z, hz⟩ : ∃ z, z = wr.heap.size := ⟨_, rfl⟩
      rw [← hz] at hB5 ⊢
      have hzo : w2.heap.size ≤ z ∧ ob < z := by omega
      have p0 := hB5.cellAt (i := 0) (v := .string k) rfl
      have p1 := hB5.cellAt (i := 1) (v := .int .u32 (u : Nat)) rfl
      have pf := hB5.frozen 1
      replace q0r := (hb5.cell (p := ⟨ob, 0, none⟩) hobw).trans q0r
      replace q1r := (hb5.cell (p := ⟨ob, 1, none⟩) hobw).trans q1r
      replace q2r := (hb5.cell (p := ⟨ob, 2, none⟩) hobw).trans q2r
      replace q3r := (hb5.cell (p := ⟨ob, 3, none⟩) hobw).trans q3r
      replace q4r := (hb5.cell (p := ⟨ob, 4, none⟩) hobw).trans q4r
      replace q5r := (hb5.cell (p := ⟨ob, 5, none⟩) hobw).trans q5r
      replace q6r := (hb5.cell (p := ⟨ob, 6, none⟩) hobw).trans q6r
      replace hz := Lib.hid hz
      clear hw5 hown hbr e0 e1
      rw [← hz.out] at hbelow
      replace hp := hp.out
      replace hL := hL.out
      try dsimp only at hR
      subst hR
      obtain ⟨m, hm⟩ : ∃ m, m = loopV arg nn test ll R u := ⟨_, rfl⟩
      have hmp := looped_any 7 arg test ia il ic nn ll R u w5 hnlt hllt (by omega) hu
      have hfm := oneP_take hja hp (o := ⟨7, ins, arg, nn, (R : Nat), test, ll⟩) (q := some (k, m)) (by simp [oneP, hm])
      rw [← hm] at hmp
      rw [Option.toList_some, ← hL] at hfm
      have hzne : ∀ g, u10.ownBlock = some g → ¬ g = z := hbelow.out
      have hob9' : ob < w5.heap.size := Nat.lt_trans hzo.2 hB5.lt
      have hz9' : z < w5.heap.size := hB5.lt
      replace hmp := Lib.hid hmp
      replace hfm := Lib.hid hfm
      replace hL := Lib.hid hL
      replace hp := Lib.hid hp
      replace hm := Lib.hid hm
      go_upto_region 13 with (go_at_call 34; refine hmp.out.mono ?_; rintro e w9 ⟨rfl, hb9⟩; replace p1 := (hb9.cell (p := ⟨z, 1, none⟩) hB5.lt).trans p1; replace pf := (hb9.frozen (p := ⟨z, 1, none⟩) hB5.lt).trans pf)
      replace hown5 := hown5.below hb9 (Nat.le_refl _)
      replace hbr5 := hbr5.trans (hb9.mono hbr5.size)
      replace hB5 := hB5.below hb9 hB5.lt
      obtain ⟨hob9, hw9⟩ : ob < w5.heap.size ∧ w5.heap.size ≤ w9.heap.size := ⟨hob9', hb9.size⟩
      replace q0r := (hb9.cell (p := ⟨ob, 0, none⟩) hob9).trans q0r
      replace q1r := (hb9.cell (p := ⟨ob, 1, none⟩) hob9).trans q1r
      replace q2r := (hb9.cell (p := ⟨ob, 2, none⟩) hob9).trans q2r
      replace q3r := (hb9.cell (p := ⟨ob, 3, none⟩) hob9).trans q3r
      replace q4r := (hb9.cell (p := ⟨ob, 4, none⟩) hob9).trans q4r
      replace q5r := (hb9.cell (p := ⟨ob, 5, none⟩) hob9).trans q5r
      replace q6r := (hb9.cell (p := ⟨ob, 6, none⟩) hob9).trans q6r
      replace p0 := (hb9.cell (p := ⟨z, 0, none⟩) hz9').trans p0
      clear hb9 hb5 hob9 hw9
      refine Code.wp_world ?_
      intro w6 hw6
      have hc6 : Chg (fun q => q = z) w9 w6 := by rw [hw6]; exact (Chg.refl _ _).setCell _ _ (fun _ => rfl)
      have hB6 := hB5.set 1 (.int .u32 (m : Nat))
      rw [← hw6] at hB6
      have hown6 := hown5.chg hc6 hzne
      have hbr6 := hbr5.trans (hc6.below (Nat.le_trans hzo.1 (Nat.le_of_lt hB5.lt)) (fun q hq e => by have := hzo.1; omega))
      replace p0 := hB6.cellAt (i := 0) (v := .string k) rfl
      replace p1 := hB6.cellAt (i := 1) (v := .int .u32 (m : Nat)) rfl
      replace pf := hB6.frozen 1
      have hob5 : ob < w9.heap.size := Nat.lt_trans hzo.2 hB5.lt
      have hobz : ¬ ob = z := Nat.ne_of_lt hzo.2
      replace q0r := (hc6.cell (p := ⟨ob, 0, none⟩) hob5 hobz).trans q0r
      replace q1r := (hc6.cell (p := ⟨ob, 1, none⟩) hob5 hobz).trans q1r
      replace q2r := (hc6.cell (p := ⟨ob, 2, none⟩) hob5 hobz).trans q2r
      replace q3r := (hc6.cell (p := ⟨ob, 3, none⟩) hob5 hobz).trans q3r
      replace q4r := (hc6.cell (p := ⟨ob, 4, none⟩) hob5 hobz).trans q4r
      replace q5r := (hc6.cell (p := ⟨ob, 5, none⟩) hob5 hobz).trans q5r
      replace q6r := (hc6.cell (p := ⟨ob, 6, none⟩) hob5 hobz).trans q6r
      clear hw6 hc6 hB6 hown5 hbr5
      go_wp2_with (first | fail | (at_builtin; refine Shut.out ?kz))
      unfold Shut
      refine wpList_app1g rfl _ _ 29 rfl Try.underlying29 hiR hR0 hR1 hR2 rfl (by decide) (enc := encR) (k, m) rfl hown6 rfl (encR_len _) (encR_one _) (by omega) (by unfold maxLen; omega) (hbr6).size ?_
      intro g cap7 w7 hown7 hgr7
      rw [← hfm.out] at hown7
      have hb7 := (hbr6).trans (hgr7.below (hbr6).size (fun g e => ((hown6).lt g e).1))
      clear hgr7 q0r q1r q2r q3r q4r q5r q6r hfm p0 p1 pf hB5
      go_wp2_with fail
      go_roundw
      case rel => exact ⟨j + 1, by omega, by go_num, hown7, hb7⟩
      case measure => simp [intOf]; omega
    · have d1 : decide ((j : Int) < (na : Int)) = false := by simp; omega
      have hti : a.take j = a := List.take_of_length_le (by have := hna.out; omega)
      rw [hti] at hown
      clear hti q0 q1 q2 q3 q4 q5 q6
      go_wp2_with fail
      go_ret
      exact at_done h.out hset.out hb12 hbr hown (by rw [hout.out]) hkeep.out
end Go.Proofs.Ytbianedgogdeeaa
