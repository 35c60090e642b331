/- Progress: the document's Update. -/
import Derived.Test.YtbholbjegfnpdaaP3
namespace Go.Proofs.Ytbholbjegfnpdaa
open Go.RowKit Go.Shelf Go.Maps
attribute [local go_sem] Oper.semAt_some
set_option linter.unusedVariables false
set_option linter.unusedSimpArgs false

/-- A right count as it may lie in memory. -/
def wfK (x : TCount) : Prop := (Lit.int .i64 x.fS.fLoc).wf = true ∧ (Lit.int .i64 x.fS.fT.fEpoch).wf = true ∧ (Lit.int .i64 x.fS.fT.fRound).wf = true ∧ (Lit.int .i64 x.fN).wf = true
theorem wfN_of {n : Int} (h1 : -9223372036854775808 ≤ n) (h2 : n ≤ 9223372036854775807) : (Lit.int IntKind.i64 n).wf = true := by
  show (decide ((-9223372036854775808 : Int) ≤ n) && decide (n ≤ 9223372036854775807)) = true
  simp
  omega
theorem rcount_wf {B : Nat} {w : World} {la : Option Addr} {lc : Nat} {l : List TCount} (h : SlA B 4 (RCount B) w la lc l) : ∀ x ∈ l, wfK x := fun x hx => by
  exact (rcount_all (B' := B) (w' := w) h x hx).2
theorem own_count {w : World} {base : Nat} {T : TypeId} {v : Value} {L : List TCount} (h : OwnL encK w base T 4 v L) (hw : ∀ x ∈ L, wfK x) : ∃ ao cap, v = .slice ao L.length cap ∧ SlA w.heap.size 4 (RCount w.heap.size) w ao cap L :=
  h.sla encK_len (fun x hx => ⟨rfl, hw x hx⟩)
theorem insL_wf {c : TCount} (hc : wfK c) : ∀ {L : List TCount}, (∀ x ∈ L, wfK x) → (∀ x ∈ L, x.fS = c.fS → -9223372036854775808 ≤ c.fN + x.fN ∧ c.fN + x.fN ≤ 9223372036854775807) → ∀ x ∈ insL c L, wfK x
  | [], _, _, x, hx => by
    rw [insL, List.mem_singleton] at hx
    exact hx ▸ hc
  | y :: r, h, hs, x, hx => by
    unfold insL at hx
    by_cases e1 : ltS c.fS y.fS
    · rw [if_pos e1] at hx
      rcases List.mem_cons.1 hx with rfl | hx
      · exact hc
      · exact h x hx
    · rw [if_neg e1] at hx
      by_cases e2 : y.fS = c.fS
      · rw [if_pos e2] at hx
        rcases List.mem_cons.1 hx with rfl | hx
        · have := hs y (by simp) e2
          exact ⟨hc.1, hc.2.1, hc.2.2.1, wfN_of this.1 this.2⟩
        · exact h x (by simp [hx])
      · rw [if_neg e2] at hx
        rcases List.mem_cons.1 hx with rfl | hx
        · exact h x (by simp)
        · exact insL_wf hc (fun x hx => h x (by simp [hx])) (fun x hx => hs x (by simp [hx])) x hx
theorem nextL_small {ops : List TOp} {L l : List TCount} (hs : SrtL L) (hb : ∀ s, -4611686018427387904 ≤ cntL L s ∧ cntL L s ≤ 4611686018427387904) (hok : l.all (okC ops) = true) (hl : l.length ≤ 1073741824) {i : Nat} (hi : i < l.length) :
    ∀ x ∈ nextL L (l.take i), x.fS = l[i].fS → -9223372036854775808 ≤ l[i].fN + x.fN ∧ l[i].fN + x.fN ≤ 9223372036854775807 := fun x hx _ => by
  have h1 := cntL_mem (nextL_srt (l.take i) L hs) x hx
  rw [nextL_cnt _ _ _ hs] at h1
  have h2 := hb x.fS
  have hok2 : (l.take i).all (okC ops) = true := by
    rw [List.all_eq_true] at hok ⊢
    exact fun y hy => hok y (List.mem_of_mem_take hy)
  have h3 := tot_range (ops := ops) x.fS hok2
  have h4 : (l.take i).length ≤ 1073741824 := by rw [List.length_take]; omega
  have h5 : okC ops l[i] = true := by rw [List.all_eq_true] at hok; exact hok _ (List.getElem_mem hi)
  unfold okC at h5
  simp only [Bool.and_eq_true, decide_eq_true_eq] at h5
  omega
theorem leftL_snoc (M : List TCount) (c : TCount) : leftL (M ++ [c]) = leftL M ++ if c.fN = 0 then [] else [c] := by
  unfold leftL
  rw [List.filter_append]
  by_cases h : c.fN = 0 <;> simp [h]
theorem room_help {k q nL m i : Nat} (h0 : k = q) (h1 : k ≤ nL + i) (h2 : i < m) (hz : nL + m + 3 ≤ 4398046511104) : (q + 3) * 32 ≤ 140737488355328 := by
  have h3 : q + 3 ≤ 4398046511104 := by omega
  exact Nat.le_trans (Nat.mul_le_mul_right 32 h3) (by decide)
theorem room_help2 {q i k nL m : Nat} (h0 : q ≤ i) (h1 : i < k) (h2 : k ≤ nL + m) (hz : nL + m + 3 ≤ 4398046511104) : (q + 1) * 32 ≤ 140737488355328 := by
  have h3 : q + 1 ≤ 4398046511104 := by omega
  exact Nat.le_trans (Nat.mul_le_mul_right 32 h3) (by decide)
theorem leftL_len (M : List TCount) : (leftL M).length ≤ M.length := List.length_filter_le _ _

set_option maxRecDepth 100000 in
set_option maxHeartbeats 4000000 in
theorem rupd_any (mk : Nat) (ops : List TOp) (ao : Option Addr) (cap : Nat) (L l : List TCount) (aL la : Option Addr) (cL lc : Nat) (w : World) (hB : Blk w mk #[.slice ao ops.length cap, .slice aL L.length cL] 59) (hg : SlA w.heap.size 7 (ROp w.heap.size) w ao cap ops) (hL : SlA w.heap.size 4 (RCount w.heap.size) w aL cL L)
    (hx : SlA w.heap.size 4 (RCount w.heap.size) w la lc l) (hs : SrtL L) (hb : ∀ s, -4611686018427387904 ≤ cntL L s ∧ cntL L s ≤ 4611686018427387904) (hl : l.length ≤ 1073741824) (hz : L.length + l.length + 3 ≤ 4398046511104) (hok : (gcheck ops).2 = 0) :
    Calls Try.prog 17 #[.pointer (some ⟨mk, 0, none⟩), .slice la l.length lc] w fun e w' => e = .returned (.int .i64 (updL ops L l).1) ∧ Chg (fun k => k = mk) w w' ∧
      ∃ aL' cL', Blk w' mk #[.slice ao ops.length cap, .slice aL' (updL ops L l).2.length cL'] 59 ∧ SlA w'.heap.size 4 (RCount w'.heap.size) w' aL' cL' (updL ops L l).2 ∧ (aL' = aL ∨ ∀ a, aL' = some a → w.heap.size ≤ a.block) := by
  obtain ⟨jK, hiK, hK0, hK1, hK2⟩ := info_parts infoK
  have hglen := hg.len
  have hlen := hx.len
  have hmk := hB.lt
  have hGd := fun W (hW : Below w.heap.size w W) (s : TStamp) => rGood_any ops cap ao s.fLoc s.fT.fEpoch s.fT.fRound w.heap.size W hW.size (imp_ops hg hW)
  rw [decide_eq_true hok] at hGd
  simp only [Bool.true_and] at hGd
  obtain ⟨n, hn⟩ : ∃ n, n = ops.length := ⟨_, rfl⟩
  obtain ⟨m, hm⟩ : ∃ m, m = l.length := ⟨_, rfl⟩
  obtain ⟨nL, hnL⟩ : ∃ nL, nL = L.length := ⟨_, rfl⟩
  obtain ⟨⟨ue, uL⟩, hU⟩ : ∃ u, u = updL ops L l := ⟨_, rfl⟩
  rw [← hn] at hB hGd hglen ⊢
  rw [← hm] at hl hz hlen ⊢
  rw [← hnL] at hB hz
  rw [← hU]
  dsimp only
  replace hn := Lib.hid hn
  replace hm := Lib.hid hm
  replace hnL := Lib.hid hnL
  replace hU := Lib.hid hU
  replace hGd := Lib.hid hGd
  replace hs := Lib.hid hs
  replace hb := Lib.hid hb
  go_enter Try.func17, Try.ntmps17
  go_wp2_with fail
  go_loopw [5] (fun x5 wr => ∃ i : Nat, i ≤ m ∧ x5 = .int .i64 i ∧ Below w.heap.size w wr ∧ Hid ((l.take i).all (okC ops) = true)) (fun x5 _ => m - (intOf x5).toNat)
  case atStart => exact ⟨0, Nat.zero_le _, rfl, Below.refl _ _, Lib.hid rfl⟩
  case round =>
    obtain ⟨i, hi, rfl, hbr, hI⟩ := hrel
    by_cases hin : i < m
    · have d1 : decide ((i : Int) < (m : Int)) = true := by simp; omega
      have hil : i < l.length := by rw [← hm.out]; exact hin
      have hsr := hx.imp hbr (Nat.le_refl _) (fun _ _ _ h => h.imp hbr (Nat.le_refl _))
      obtain ⟨b2, off2, rfl, hb2l, -⟩ := hsr.addr (by omega)
      obtain ⟨c, hc⟩ : ∃ c, l[i] = c := ⟨_, rfl⟩
      obtain ⟨e0, e1, e2, e3, -⟩ := RCount.at hsr hil hc
      have m0 := (hB.below hbr hmk).cellAt (i := 0) (v := .slice ao n cap) rfl
      have h0 := Wd.cell m0 (World.lt_of_cell m0)
      have f0 := Wd.cell e0 (World.lt_of_cell e0)
      have f1 := Wd.cell e1 (World.lt_of_cell e1)
      have f2 := Wd.cell e2 (World.lt_of_cell e2)
      have f3 := Wd.cell e3 (World.lt_of_cell e3)
      have hgd := fun W hW => hGd.out W hW c.fS
      have hsw := hbr.size
      have htk : l.take (i + 1) = l.take i ++ [c] := by rw [List.take_succ_eq_append_getElem hil, hc]
      have hcm : c ∈ l := by rw [← hc]; exact List.getElem_mem hil
      clear hsr e0 e1 e2 e3 m0
      by_cases hco : okC ops c = true
      · have hI2 : Hid ((l.take (i + 1)).all (okC ops) = true) := Lib.hid (by rw [htk, List.all_append, hI.out]; simp [hco])
        unfold okC at hco
        simp only [Bool.and_eq_true, decide_eq_true_eq] at hco
        obtain ⟨⟨q1, q2⟩, q3⟩ := hco
        have d2 : decide (c.fN < (-2147483648 : Int)) = false := by simp; omega
        have d3 : decide ((2147483648 : Int) < c.fN) = false := by simp; omega
        rw [q3] at hgd
        replace hgd := Lib.hid hgd
        clear q1 q2 q3 hI htk hcm
        go_upto_region 4 with fail
        refine wp_region_below (by kernel_rfl) (by kernel_rfl) ?_
        repeat (go_big_quiet_step ((go_at_call 27; exact Calls.quiet_below (hgd.out _ (hbr.trans (Below.mono (Wd.h _) hsw))))))
        refine wpQuiet_nil ?_
        rintro _ ⟨u, rfl⟩
        have hbu := hbr.trans (u.h.mono hbr.size)
        obtain ⟨w4, hw4⟩ : ∃ w4, w4 = u.v := ⟨_, rfl⟩
        rw [← hw4] at hbu ⊢
        clear hw4 f0 f1 f2 f3 h0 hgd
        go_wp2_with fail
        go_roundw
        case rel => exact ⟨i + 1, by omega, by go_num, hbu, hI2⟩
        case measure => simp [intOf]; omega
      · have hU2 : ue = 1 ∧ uL = L := by
          have h1 := hU.out
          unfold updL at h1
          rw [if_pos] at h1
          · simpa using h1
          · rw [Bool.eq_false_iff]
            intro h2
            rw [List.all_eq_true] at h2
            exact hco (h2 c hcm)
        obtain ⟨rfl, rfl⟩ := hU2
        have hend : ∀ W, Below w.heap.size w W → Chg (fun k => k = mk) w W ∧ ∃ aL' cL', Blk W mk #[.slice ao n cap, .slice aL' uL.length cL'] 59 ∧ SlA W.heap.size 4 (RCount W.heap.size) W aL' cL' uL ∧ (aL' = aL ∨ ∀ a, aL' = some a → w.heap.size ≤ a.block) := fun W hW =>
          ⟨(Chg.of_below hW).mono (fun k h1 h2 => by omega), aL, cL, by rw [← hnL.out]; exact hB.below hW hmk, hL.imp hW hW.size (fun _ _ _ h => h.imp hW hW.size), .inl rfl⟩
        replace hend := Lib.hid hend
        clear hI htk hcm
        by_cases q1 : c.fN < -2147483648
        · have d2 : decide (c.fN < (-2147483648 : Int)) = true := by simpa using q1
          replace hgd := Lib.hid hgd
          go_upto_region 4 with fail
          refine wp_region_below (by kernel_rfl) (by kernel_rfl) ?_
          repeat (go_big_quiet_step (fail))
          refine wpQuiet_nil ?_
          rintro _ ⟨u, rfl⟩
          have hbu := hbr.trans (u.h.mono hbr.size)
          obtain ⟨w4, hw4⟩ : ∃ w4, w4 = u.v := ⟨_, rfl⟩
          rw [← hw4] at hbu ⊢
          clear hw4 f0 f1 f2 f3 h0
          go_wp2_with fail
          go_ret
          exact ⟨rfl, hend.out _ hbu⟩
        · have d2 : decide (c.fN < (-2147483648 : Int)) = false := by simpa using q1
          by_cases q2 : 2147483648 < c.fN
          · have d3 : decide ((2147483648 : Int) < c.fN) = true := by simpa using q2
            replace hgd := Lib.hid hgd
            go_upto_region 4 with fail
            refine wp_region_below (by kernel_rfl) (by kernel_rfl) ?_
            repeat (go_big_quiet_step (fail))
            refine wpQuiet_nil ?_
            rintro _ ⟨u, rfl⟩
            have hbu := hbr.trans (u.h.mono hbr.size)
            obtain ⟨w4, hw4⟩ : ∃ w4, w4 = u.v := ⟨_, rfl⟩
            rw [← hw4] at hbu ⊢
            clear hw4 f0 f1 f2 f3 h0
            go_wp2_with fail
            go_ret
            exact ⟨rfl, hend.out _ hbu⟩
          · have d3 : decide ((2147483648 : Int) < c.fN) = false := by simpa using q2
            have q3 : goodS ops c.fS.fLoc c.fS.fT.fEpoch c.fS.fT.fRound = false := by
              rw [Bool.eq_false_iff]
              intro h
              refine hco ?_
              unfold okC
              simp only [Bool.and_eq_true, decide_eq_true_eq]
              exact ⟨⟨by omega, by omega⟩, h⟩
            rw [q3] at hgd
            replace hgd := Lib.hid hgd
            clear q3 q1 q2
            go_upto_region 4 with fail
            refine wp_region_below (by kernel_rfl) (by kernel_rfl) ?_
            repeat (go_big_quiet_step ((go_at_call 27; exact Calls.quiet_below (hgd.out _ (hbr.trans (Below.mono (Wd.h _) hsw))))))
            refine wpQuiet_nil ?_
            rintro _ ⟨u, rfl⟩
            have hbu := hbr.trans (u.h.mono hbr.size)
            obtain ⟨w4, hw4⟩ : ∃ w4, w4 = u.v := ⟨_, rfl⟩
            rw [← hw4] at hbu ⊢
            clear hw4 f0 f1 f2 f3 h0 hgd
            go_wp2_with fail
            go_ret
            exact ⟨rfl, hend.out _ hbu⟩
    · have d1 : decide ((i : Int) < (m : Int)) = false := by simp; omega
      have hok2 := hI.out
      rw [List.take_of_length_le (by rw [← hm.out]; omega)] at hok2
      have m1 := (hB.below hbr hmk).cellAt (i := 1) (v := .slice aL nL cL) rfl
      have hLr := hL.imp hbr hbr.size (fun _ _ _ h => h.imp hbr hbr.size)
      have hxw := rcount_wf hx
      have hLw := rcount_wf hL
      replace hok2 := Lib.hid hok2
      replace hxw := Lib.hid hxw
      replace hLw := Lib.hid hLw
      obtain ⟨wi, hwi⟩ : ∃ wi, wi = wr := ⟨_, rfl⟩
      rw [← hwi] at hbr m1 hLr ⊢
      clear hwi hI hGd
      go_wp2_with fail
      go_loopw [6, 7] (fun x6 x7 wr => ∃ (i k : Nat) (aN : Option Addr) (cN : Nat), i ≤ m ∧ x7 = .int .i64 i ∧ x6 = .slice aN k cN ∧ Hid (k = (nextL L (l.take i)).length) ∧ SlA wr.heap.size 4 (RCount wr.heap.size) wr aN cN (nextL L (l.take i)) ∧ Below w.heap.size w wr) (fun _ x7 _ => m - (intOf x7).toNat)
      case atStart => exact ⟨0, nL, aL, cL, Nat.zero_le _, rfl, rfl, Lib.hid hnL.out, hLr, hbr⟩
      case round =>
        clear m1 hLr hbr
        obtain ⟨i, k, aN, cN, hi2, rfl, rfl, hk, hN, hbr⟩ := hrel
        by_cases hin2 : i < m
        · have d1 : decide ((i : Int) < (m : Int)) = true := by simp; omega
          have hil : i < l.length := by rw [← hm.out]; exact hin2
          have hsr := hx.imp hbr (Nat.le_refl _) (fun _ _ _ h => h.imp hbr (Nat.le_refl _))
          obtain ⟨b2, off2, rfl, hb2l, -⟩ := hsr.addr (by omega)
          obtain ⟨c, hc⟩ : ∃ c, l[i] = c := ⟨_, rfl⟩
          obtain ⟨e0, e1, e2, e3, -⟩ := RCount.at hsr hil hc
          have hsm := nextL_small hs.out hb.out hok2.out (by rw [← hm.out]; exact hl) hil
          rw [hc] at hsm
          have hkl : k ≤ nL + i := by
            have := nextL_len (l.take i) L
            rw [List.length_take] at this
            have h1 := hk.out
            have h2 := hnL.out
            omega
          have htk : nextL L (l.take (i + 1)) = insL c (nextL L (l.take i)) := by rw [List.take_succ_eq_append_getElem hil, hc, nextL_snoc]
          have hz4 : ((nextL L (l.take i)).length + 3) * 32 ≤ 140737488355328 := room_help hk.out hkl hin2 hz
          have hsrt : SrtL (nextL L (l.take i)) := nextL_srt _ _ hs.out
          have hadq : ∀ M : List TCount, SlA wr.heap.size 4 (RCount wr.heap.size) wr aN cN M → SrtL M → (M.length + 3) * 32 ≤ 140737488355328 → (∀ x ∈ M, x.fS = c.fS → -9223372036854775808 ≤ c.fN + x.fN ∧ c.fN + x.fN ≤ 9223372036854775807) → k = M.length → ∀ M', M' = insL c M →
              Calls Try.prog 36 #[.slice aN k cN, .agg #[.int .i64 c.fS.fLoc, .int .i64 c.fS.fT.fEpoch, .int .i64 c.fS.fT.fRound, .int .i64 c.fN]] wr fun e w' => ∃ v, e = .returned v ∧ OwnL encK w' wr.heap.size 40 4 v M' ∧ Below wr.heap.size wr w' := by
            intro M g1 g2 g3 g4 g5 M' g6
            subst g5 g6
            exact add_any c M aN cN wr g1 g2 g3 g4
          have had := hadq _ hN hsrt hz4 hsm hk.out _ htk
          clear hadq hz4 hsrt
          have hwN : ∀ x ∈ nextL L (l.take (i + 1)), wfK x := by rw [htk]; exact insL_wf (hxw.out c (by rw [← hc]; exact List.getElem_mem hil)) (rcount_wf hN) hsm
          replace had := Lib.hid had
          replace hwN := Lib.hid hwN
          replace hsm := Lib.hid hsm
          replace htk := Lib.hid htk
          clear hsr hN
          go_wp2_with (go_at_call 36; refine Shut.out ?ka)
          unfold Shut
          refine had.out.mono ?_
          rintro e w4 ⟨v4, rfl, hO4, hb4⟩
          obtain ⟨a4, c4, rfl, hS4⟩ := own_count hO4 hwN.out
          have hbu := hbr.trans (hb4.mono hbr.size)
          clear had hO4 hb4 e0 e1 e2 e3
          dsimp only
          go_wp2_with fail
          go_roundw
          case rel => exact ⟨i + 1, _, a4, c4, by omega, by go_num, rfl, Lib.hid rfl, hS4, hbu⟩
          case measure => simp [intOf]; omega
        · have d1 : decide ((i : Int) < (m : Int)) = false := by simp; omega
          rw [List.take_of_length_le (by rw [← hm.out]; omega)] at hk hN
          obtain ⟨M, hM⟩ : ∃ M, M = nextL L l := ⟨_, rfl⟩
          rw [← hM] at hk hN
          have hkn : k ≤ nL + m := by
            have := nextL_len l L
            have h1 := hk.out
            have h2 := hnL.out
            have h3 := hm.out
            rw [← hM] at this
            omega
          have hMw := rcount_wf hN
          replace hM := Lib.hid hM
          replace hMw := Lib.hid hMw
          obtain ⟨wj, hwj⟩ : ∃ wj, wj = wr := ⟨_, rfl⟩
          rw [← hwj] at hN hbr ⊢
          have hwsz := hbr.size
          clear hwj
          go_wp2_with fail
          have hbk := hbr
          have hwj : w.heap.size ≤ wj.heap.size := hbr.size
          have hM8 : (nL + m + 3) * 32 ≤ 140737488355328 := Nat.le_trans (Nat.mul_le_mul_right 32 hz) (by decide)
          go_loopw [8, 9] (fun x8 x9 wr => ∃ i : Nat, i ≤ k ∧ x9 = .int .i64 i ∧ OwnL encK wr wj.heap.size 40 4 x8 (leftL (M.take i)) ∧ Below wj.heap.size wj wr ∧ Hid ((M.take i).any outC = false)) (fun _ x9 _ => k - (intOf x9).toNat)
          case atStart => exact ⟨0, Nat.zero_le _, rfl, OwnL.nil _ _ _ _ _, Below.refl _ _, Lib.hid rfl⟩
          case round =>
            clear hM8
            obtain ⟨i, hi3, rfl, hO, hbr3, hI3⟩ := hrel
            have hbw := hbk.trans (hbr3.mono hwj)
            obtain ⟨av, cv, hv8, -, -, -⟩ := hO.slice
            subst hv8
            obtain ⟨q, hq⟩ : ∃ q, q = (leftL (M.take i)).length := ⟨_, rfl⟩
            have hqi : q ≤ i := by
              have := leftL_len (M.take i)
              rw [List.length_take] at this
              omega
            rw [← hq] at hO ⊢
            replace hq := Lib.hid hq
            by_cases hin3 : i < k
            · have d1 : decide ((i : Int) < (k : Int)) = true := by simp; omega
              have hiM : i < M.length := by rw [← hk.out]; exact hin3
              have hNr := hN.imp hbr3 (Nat.le_refl _) (fun _ _ _ h => h.imp hbr3 (Nat.le_refl _))
              obtain ⟨b2, off2, rfl, hb2l, -⟩ := hNr.addr (by omega)
              obtain ⟨c, hc⟩ : ∃ c, M[i] = c := ⟨_, rfl⟩
              obtain ⟨e0, e1, e2, e3, -⟩ := RCount.at hNr hiM hc
              have htk : M.take (i + 1) = M.take i ++ [c] := by rw [List.take_succ_eq_append_getElem hiM, hc]
              have hcm : c ∈ M := by rw [← hc]; exact List.getElem_mem hiM
              clear hNr
              by_cases hco : outC c = true
              · have hU2 : ue = 14 ∧ uL = L := by
                  have h1 := hU.out
                  unfold updL at h1
                  rw [if_neg (by rw [hok2.out]; simp), if_pos (by rw [← hM.out]; exact List.any_eq_true.2 ⟨c, hcm, hco⟩)] at h1
                  simpa using h1
                obtain ⟨rfl, rfl⟩ := hU2
                unfold outC at hco
                simp only [Bool.or_eq_true, decide_eq_true_eq] at hco
                have hend : Hid (Chg (fun k => k = mk) w wr ∧ ∃ aL' cL', Blk wr mk #[.slice ao n cap, .slice aL' uL.length cL'] 59 ∧ SlA wr.heap.size 4 (RCount wr.heap.size) wr aL' cL' uL ∧ (aL' = aL ∨ ∀ a, aL' = some a → w.heap.size ≤ a.block)) :=
                  Lib.hid ⟨(Chg.of_below hbw).mono (fun k h1 h2 => by omega), aL, cL, by rw [← hnL.out]; exact hB.below hbw hmk, hL.imp hbw hbw.size (fun _ _ _ h => h.imp hbw hbw.size), .inl rfl⟩
                clear hI3 htk hcm
                by_cases q1 : 4611686018427387904 < c.fN
                · have d2 : decide ((4611686018427387904 : Int) < c.fN) = true := by simpa using q1
                  clear q1 hco
                  go_wp2_with fail
                  go_ret
                  exact ⟨rfl, hend.out⟩
                · have d2 : decide ((4611686018427387904 : Int) < c.fN) = false := by simpa using q1
                  have d3 : decide (c.fN < (-4611686018427387904 : Int)) = true := by simp; omega
                  clear q1 hco
                  go_wp2_with fail
                  go_ret
                  exact ⟨rfl, hend.out⟩
              · have hco2 : outC c = false := by simpa using hco
                have hI4 : Hid ((M.take (i + 1)).any outC = false) := Lib.hid (by rw [htk, List.any_append, hI3.out]; simp [hco2])
                have hls := leftL_snoc (M.take i) c
                rw [← htk] at hls
                unfold outC at hco2
                simp only [Bool.or_eq_false_iff, decide_eq_false_iff_not] at hco2
                have d2 : decide ((4611686018427387904 : Int) < c.fN) = false := by simpa using hco2.1
                have d3 : decide (c.fN < (-4611686018427387904 : Int)) = false := by simp; omega
                clear hI3 htk hcm hco hco2
                by_cases h0 : c.fN = 0
                · rw [if_pos h0, List.append_nil] at hls
                  have d4 : (c.fN != 0) = false := by simpa using h0
                  replace hls := Lib.hid hls
                  clear h0
                  go_wp2_with fail
                  go_roundw
                  case rel => exact ⟨i + 1, by omega, by go_num, by rw [hls.out]; exact hO, hbr3, hI4⟩
                  case measure => simp [intOf]; omega
                · rw [if_neg h0] at hls
                  have d4 : (c.fN != 0) = true := by simpa using h0
                  replace hls := Lib.hid hls
                  clear h0
                  have hs3 := hbr3.size
                  go_wp2_with (at_builtin; refine Shut.out ?kap)
                  unfold Shut
                  change wpList _ _ _ _ _ (wr.alloc (.cells (encK c).toArray 40))
                  refine wpList_app1 rfl _ _ 41 rfl Try.underlying41 hiK hK0 hK1 hK2 rfl (by decide) (enc := encK) c rfl hO rfl (encK_len _) (encK_one _) (by rw [← hq.out]; exact room_help2 hqi hin3 hkn hz) (by rw [← hq.out]; unfold maxLen; omega) hs3 ?_
                  intro a5 cp5 w5 hown5 hbb5 hgr5
                  rw [← hls.out, ← hq.out] at hown5
                  rw [← hq.out]
                  have hb5 := hbr3.trans hbb5
                  clear hgr5 hbb5 hO e0 e1 e2 e3
                  go_wp2_with fail
                  go_roundw
                  case rel => exact ⟨i + 1, by omega, by go_num, hown5, hb5, hI4⟩
                  case measure => simp [intOf]; omega
            · have d1 : decide ((i : Int) < (k : Int)) = false := by simp; omega
              have hI4 := hI3.out
              have hO4 := hO
              have hq4 := hq.out
              rw [List.take_of_length_le (by rw [← hk.out]; omega)] at hI4 hO4 hq4
              have hU2 : ue = 0 ∧ uL = leftL M := by
                have h1 := hU.out
                unfold updL at h1
                rw [if_neg (by rw [hok2.out]; simp), if_neg (by rw [← hM.out, hI4]; simp), ← hM.out] at h1
                simpa using h1
              obtain ⟨rfl, rfl⟩ := hU2
              have hBr := hB.below hbw hmk
              have fz := hBr.frozen 1
              have z1 := hBr.cellAt (i := 1) (v := .slice aL nL cL) rfl
              have hlw : ∀ x ∈ leftL M, wfK x := fun x hx => hMw.out x (List.mem_filter.1 hx).1
              have hmj : mk < wj.heap.size := by omega
              replace hq4 := Lib.hid hq4
              replace hlw := Lib.hid hlw
              clear hI4 hO hq hI3 hU
              go_upto_region 20 with fail
              refine Code.wp_world ?_
              intro w9 hw9
              have hcg : Chg (fun j => j = mk) wr w9 := by rw [hw9]; exact (Chg.refl _ _).setCell ⟨mk, 1, none⟩ _ (fun _ => rfl)
              have hO9 := OwnL.chg hO4 hcg (fun g e e2 => by have := (OwnL.lt hO4 g e).1; omega)
              have hB9 : Blk w9 mk #[.slice ao n cap, .slice av q cv] 59 := by rw [hw9]; exact hBr.set 1 _
              have hc9 : Chg (fun k => k = mk) w w9 := ((Chg.of_below hbw).mono (fun k h1 h2 => by omega)).trans hcg
              obtain ⟨a9, c9, e, hS9⟩ := own_count hO9 hlw.out
              rw [← hq4.out] at e
              simp only [Value.slice.injEq, true_and] at e
              obtain ⟨rfl, rfl⟩ := e
              have hab : ∀ a, av = some a → w.heap.size ≤ a.block := fun a e => by
                obtain ⟨ao', cp', e1, -, -, h3⟩ := hO9.slice
                simp only [Value.slice.injEq] at e1
                obtain ⟨rfl, -, -⟩ := e1
                exact Nat.le_trans hwj (h3 a e).1
              clear hw9 hcg hO9 hBr fz z1 hO4
              go_wp2_with fail
              go_ret
              exact ⟨rfl, hc9, av, cv, by rw [← hq4.out]; exact hB9, hS9, .inr hab⟩
end Go.Proofs.Ytbholbjegfnpdaa
