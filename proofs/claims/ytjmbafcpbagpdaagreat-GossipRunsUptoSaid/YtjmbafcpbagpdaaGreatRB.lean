/- Reach: Front. -/
import Derived.Test.YtjmbafcpbagpdaaGreatRA
import Derived.Test.YtjmbafcpbagpdaaGreatSB
import Derived.Test.YtjmbafcpbagpdaaGreatL1
namespace Go.Proofs.YtjmbafcpbagpdaaGreat
open Go.RowKit Go.Shelf
set_option linter.unusedVariables false
set_option linter.unusedSimpArgs false

/-- What a pointstamp brings to an operator. -/
noncomputable def timeOf (ops : List TOp) (loc : Int) (s : TStamp) : List TTime :=
  if goodS ops s.fLoc s.fT.fEpoch s.fT.fRound then (if s.fLoc = loc then [s.fT] else if rch ops s.fLoc.toNat loc.toNat then [⟨s.fT.fEpoch, 0⟩] else []) else []
noncomputable def timesF (ops : List TOp) (loc : Int) (L : List TStamp) : List TTime := L.flatMap (timeOf ops loc)
noncomputable def timesS (ops : List TOp) (loc : Int) (L : List TStamp) : List TTime := if (gcheck ops).2 = 0 ∧ 0 ≤ loc ∧ loc < ops.length then timesF ops loc L else []
theorem timeOf_len (ops : List TOp) (loc : Int) (s : TStamp) : (timeOf ops loc s).length ≤ 1 := by unfold timeOf; split <;> (try split) <;> (try split) <;> simp
theorem timesF_len (ops : List TOp) (loc : Int) (L : List TStamp) : (timesF ops loc L).length ≤ L.length := by
  unfold timesF
  induction L with
  | nil => simp
  | cons s r ih =>
    rw [List.flatMap_cons, List.length_append, List.length_cons]
    have := timeOf_len ops loc s
    omega
theorem timesF_snoc {ops : List TOp} {loc : Int} {L : List TStamp} {i : Nat} {s : TStamp} (hi : i < L.length) (hs : L[i] = s) : timesF ops loc (L.take (i + 1)) = timesF ops loc (L.take i) ++ timeOf ops loc s := by
  unfold timesF
  rw [List.take_add_one, List.getElem?_eq_getElem hi, hs, Option.toList_some, List.flatMap_append]
  simp
theorem isFront_nil : IsFront [] [] := ⟨by simp, fun x => by simp [MinT]⟩
theorem imp_stamps {B : Nat} {w w' : World} {ao : Option Addr} {cap : Nat} {xs : List TStamp} (h : SlA B 3 (RStamp B) w ao cap xs) (hb : Below B w w') : SlA B 3 (RStamp B) w' ao cap xs := h.imp hb (Nat.le_refl _) (fun _ _ _ h => h.imp hb (Nat.le_refl _))

theorem ownT_snoc {w w' : World} {base : Nat} {v v' : Value} {T : List TTime} {x : TTime} (h : OwnT w base v T) (hw : wfT x) (ho : OwnL encT w' base 57 2 v' (T ++ [x])) : OwnT w' base v' (T ++ [x]) :=
  ⟨ho, fun z hz => by
    rcases List.mem_append.1 hz with hz | hz
    · exact h.2 z hz
    · obtain rfl : z = x := by simpa using hz
      exact hw⟩

set_option maxRecDepth 100000 in
set_option maxHeartbeats 4000000 in
theorem pfront_any (ops : List TOp) (cap : Nat) (ao : Option Addr) (L : List TStamp) (c2 : Nat) (ao2 : Option Addr) (loc : Int) (B : Nat) (w : World) (hB : B ≤ w.heap.size) (hx : SlA B 7 (ROp B) w ao cap ops) (hl : SlA B 3 (RStamp B) w ao2 c2 L) (hz : (L.length + 1) * 16 ≤ 140737488351232) :
    Calls Tryz.prog 59 #[.agg #[.slice ao ops.length cap], .slice ao2 L.length c2, .int .i64 loc] w fun x w' => ∃ v f, x = .returned v ∧ OwnT w' w.heap.size v f ∧ IsFront (timesS ops loc L) f ∧ Below w.heap.size w w' := by
  by_cases hok : (gcheck ops).2 = 0
  · have hG := okG_of_check hok
    have hR := fun W hb => reaches_ok ops cap ao W B (Nat.le_trans hB (Below.size hb)) (imp_ops hx (hb.mono hB)) hok
    have hp := fun l e r W hb => pgood_any ops cap ao l e r B W (Nat.le_trans hB (Below.size hb)) (imp_ops hx (hb.mono hB))
    have hpos := hG.pos
    have hmost := hG.most
    have hll := hl.len
    obtain ⟨n, hn⟩ : ∃ n, n = ops.length := ⟨_, rfl⟩
    obtain ⟨m, hm⟩ : ∃ m, m = L.length := ⟨_, rfl⟩
    rw [← hn] at hR hp hpos hmost ⊢
    rw [← hm] at hz hll ⊢
    by_cases hin : 0 ≤ loc ∧ loc < n
    · obtain ⟨q, rfl⟩ : ∃ q : Nat, loc = q := ⟨loc.toNat, by omega⟩
      have hq : q < n := by omega
      rw [show timesS ops q L = timesF ops q L by unfold timesS; rw [if_pos ⟨hok, by omega, by omega⟩]]
      obtain ⟨i0, hi, hz0, hz1, hz2⟩ := info_parts infoT
      have d1 : decide ((q : Int) < 0) = false := by simp
      have d2 : decide ((n : Int) ≤ (q : Int)) = false := by simp; omega
      have d3 : decide (n ≤ q) = false := by simp; omega
      replace hn := Lib.hid hn
      replace hm := Lib.hid hm
      replace hok := Lib.hid hok
      replace hG := Lib.hid hG
      replace hp := Lib.hid hp
      go_enter Tryz.func59, Tryz.ntmps59
      go_wp2_with fail
      have hg0 := Blk.new w #[.slice ao n cap] 24
      have hb0 : Below w.heap.size w (w.alloc (.cells #[.slice ao n cap] 24)) := (Below.refl _ _).alloc (Nat.le_refl _) _
      refine (hR _ hb0).mono ?_
      rintro x w1 ⟨v, rfl, ⟨hb, rs, rfl, hP⟩, hb1⟩
      have hg1 := hg0.below hb1 hg0.lt
      have hbel1 := hb0.trans (hb1.mono hb0.size)
      clear hb0 hb1 hg0 hR
      dsimp only
      go_wp2_with fail
      go_loopw [8, 23] (fun v x23 wr => ∃ i : Nat, i ≤ m ∧ x23 = .int .i64 i ∧ Below w1.heap.size w1 wr ∧ OwnT wr w1.heap.size v (timesF ops q (L.take i))) (fun _ x23 _ => m - (intOf x23).toNat)
      case atStart => exact ⟨0, Nat.zero_le _, rfl, Below.refl _ _, OwnT.nil _ _⟩
      case round =>
        obtain ⟨i, hiL, rfl, hbel, hown⟩ := hrel
        have hbelw := hbel1.trans (hbel.mono hbel1.size)
        by_cases hlt : i < m
        · have hix : i < L.length := by rw [← hm.out]; exact hlt
          obtain ⟨b1, o1, rfl, hb1, _⟩ := hl.addr (by omega)
          obtain ⟨s, hs⟩ : ∃ s, L[i] = s := ⟨_, rfl⟩
          obtain ⟨e0, e1, e2, wf0, wf1, wf2⟩ := RStamp.at (imp_stamps hl (hbelw.mono hB)) hix hs
          have hsn := timesF_snoc (ops := ops) (loc := (q : Int)) hix hs
          have htl : (timesF ops q (L.take i)).length ≤ i := Nat.le_trans (timesF_len _ _ _) (by simp; omega)
          obtain ⟨T, hT⟩ : ∃ T, T = timesF ops q (L.take i) := ⟨_, rfl⟩
          rw [← hT] at hown hsn htl
          have hsz := hbel.size
          have hg2 := hg1.below hbel hg1.lt
          have c0 := hg2.cellAt (i := 0) (v := .slice ao n cap) rfl
          have hgl := hg2.lt
          have hb1w : b1 < wr.heap.size := by have := hbelw.size; omega
          obtain ⟨gv, hgv⟩ : ∃ g, g = goodS ops s.fLoc s.fT.fEpoch s.fT.fRound := ⟨_, rfl⟩
          have hpg := hp.out s.fLoc s.fT.fEpoch s.fT.fRound
          rw [← hgv] at hpg
          have htf : gv = false → timeOf ops q s = [] := fun h => by unfold timeOf; rw [← hgv, h]; rfl
          have htt : gv = true → ∃ k : Nat, s.fLoc = k ∧ k < n ∧ timeOf ops q s = if k = q then [s.fT] else if rch ops k q then [⟨s.fT.fEpoch, 0⟩] else [] := fun h => by
            obtain ⟨k, e1, e2⟩ := goodS_in (hgv.symm.trans h)
            refine ⟨k, e1, by rw [hn.out]; exact e2, ?_⟩
            unfold timeOf
            rw [← hgv, h, if_pos rfl, e1, Int.toNat_natCast, Int.toNat_natCast]
            by_cases hkq : k = q
            · rw [if_pos (by omega), if_pos hkq]
            · rw [if_neg (by omega), if_neg hkq]
          replace hsn := Lib.hid hsn
          replace hT := Lib.hid hT
          replace htf := Lib.hid htf
          replace htt := Lib.hid htt
          replace hs := Lib.hid hs
          clear hgv
          obtain ⟨av, cv, hvv, _, _, _⟩ := hown.1.slice
          subst hvv
          obtain ⟨nl, hnl⟩ : ∃ nl, nl = T.length := ⟨_, rfl⟩
          rw [← hnl] at hown ⊢
          replace hnl := Lib.hid hnl
          go_upto_region 8 with fail
          obtain ⟨sb, hsb⟩ : ∃ sb, sb = wr.heap.size := ⟨_, rfl⟩
          have hS3 : Blk (wr.alloc (.cells #[.int .i64 s.fLoc, .int .i64 s.fT.fEpoch, .int .i64 s.fT.fRound] 59)) sb #[.int .i64 s.fLoc, .int .i64 s.fT.fEpoch, .int .i64 s.fT.fRound] 59 := by rw [hsb]; exact Blk.new _ _ _
          have hb3 : Below wr.heap.size wr (wr.alloc (.cells #[.int .i64 s.fLoc, .int .i64 s.fT.fEpoch, .int .i64 s.fT.fRound] 59)) := (Below.refl _ _).alloc (Nat.le_refl _) _
          rw [← hsb]
          replace hsb := Lib.hid hsb
          generalize wr.alloc (.cells #[.int .i64 s.fLoc, .int .i64 s.fT.fEpoch, .int .i64 s.fT.fRound] 59) = w3 at hS3 hb3 ⊢
          have hbel3 := hbel.trans (hb3.mono hsz)
          have hown3 : OwnT w3 w1.heap.size (.slice av nl cv) T := ⟨hown.1.below hb3 (Nat.le_refl _), hown.2⟩
          have hbelw3 := hbel1.trans (hbel3.mono hbel1.size)
          have hg3 := hg1.below hbel3 hg1.lt
          clear hown hb3 c0 hgl hg2 e0 e1 e2 hbel hbelw hb1w
          have c0 := hg3.cellAt (i := 0) (v := .slice ao n cap) rfl
          have s0 := hS3.cellAt (i := 0) (v := .int .i64 s.fLoc) rfl
          have s1 := hS3.cellAt (i := 1) (v := .int .i64 s.fT.fEpoch) rfl
          have s2 := hS3.cellAt (i := 2) (v := .int .i64 s.fT.fRound) rfl
          go_wp2_with fail
          refine (hpg _ hbelw3).mono ?_
          rintro x w4 ⟨rfl, hb4⟩
          have hbel4 := hbel3.trans (hb4.mono hbel3.size)
          have hown4 : OwnT w4 w1.heap.size (.slice av nl cv) T := ⟨hown3.1.below hb4 (Nat.le_refl _), hown3.2⟩
          have hS4 := hS3.below hb4 hS3.lt
          have hP4 := hP.below hbel4 (Nat.le_refl _)
          clear c0 s0 s1 s2 hpg hown3 hbel3 hbelw3 hg3 hS3 hb4
          have s0 := hS4.cellAt (i := 0) (v := .int .i64 s.fLoc) rfl
          have s1 := hS4.cellAt (i := 1) (v := .int .i64 s.fT.fEpoch) rfl
          have s2 := hS4.cellAt (i := 2) (v := .int .i64 s.fT.fRound) rfl
          have hwfT : wfT s.fT := ⟨wf1, wf2⟩
          replace hwfT := Lib.hid hwfT
          clear wf0 wf1 wf2
          have hz4 := hbel4.size
          cases gv with
          | false =>
            have htf2 := htf.out (by trivial)
            replace htf2 := Lib.hid htf2
            dsimp only
            go_wp2_with fail
            go_roundw
            case rel => exact ⟨i + 1, by omega, by go_num, hbel4, by rw [hsn.out, htf2.out, List.append_nil]; exact hown4⟩
            case measure => simp [intOf]; omega
          | true =>
            obtain ⟨k, hsk, hkn, htk⟩ := htt.out (by trivial)
            rw [hsk] at s0
            replace hsk := Lib.hid hsk
            dsimp only
            by_cases hkq : k = q
            · rw [if_pos hkq] at htk
              have heq : ((k : Int) == (q : Int)) = true := by rw [hkq]; simp
              replace htk := Lib.hid htk
              clear hkq
              go_wp2_with (at_builtin; refine Shut.out ?stopA)
              unfold Shut
              refine wpList_app1 rfl _ _ 49 rfl Tryz.underlying49 hi hz0 hz1 hz2 rfl (by decide) (enc := encT) s.fT rfl hown4.1 rfl (encT_len _) (encT_one _) (by first | omega | (simp; done) | (simp; omega)) (by unfold maxLen; first | omega | (simp; done) | (simp; omega)) (hz4) ?_
              intro a1 cp1 w5 hown5 hb5 hgr
              have hbel5 := hbel4.trans hb5
              rw [← hnl.out] at hown5 ⊢
              clear hb5 hgr s0 s1 s2 hS4
              go_wp2_with fail
              go_roundw
              case rel => exact ⟨i + 1, by omega, by go_num, hbel5, by rw [hsn.out, htk.out]; exact ownT_snoc hown4 hwfT.out hown5⟩
              case measure => simp [intOf]; omega
            · rw [if_neg hkq] at htk
              have heq : ((k : Int) == (q : Int)) = false := by simp; omega
              obtain ⟨rr, h1, h2⟩ := hP4.hcell (Nat.zero_le k) hkn
              have h3 := hP4.rcell (Nat.zero_le k) h1 hq
              generalize rch ops k q = rv at htk h3
              replace htk := Lib.hid htk
              clear h1 hkq
              cases rv with
              | false =>
                go_wp2_with fail
                go_roundw
                case rel => exact ⟨i + 1, by omega, by go_num, hbel4, by rw [hsn.out, htk.out]; simpa using hown4⟩
                case measure => simp [intOf]; omega
              | true =>
                go_wp2_with fail
                refine (out_any s.fT.fEpoch s.fT.fRound _).mono ?_
                rintro x w5 ⟨rfl, hb5⟩
                have hbel5 := hbel4.trans (hb5.mono hz4)
                have hown5 : OwnT w5 w1.heap.size (.slice av nl cv) T := ⟨hown4.1.below hb5 (Nat.le_refl _), hown4.2⟩
                have hz5 := hbel5.size
                have hwf0 : wfT ⟨s.fT.fEpoch, 0⟩ := ⟨hwfT.out.1, by simp only; decide⟩
                replace hwf0 := Lib.hid hwf0
                clear hb5 hown4 hbel4 hz4 s0 s1 s2 hS4 h2 h3
                dsimp only
                go_wp2_with (at_builtin; refine Shut.out ?stopB)
                unfold Shut
                refine wpList_app1 rfl _ _ 49 rfl Tryz.underlying49 hi hz0 hz1 hz2 rfl (by decide) (enc := encT) ⟨s.fT.fEpoch, 0⟩ rfl hown5.1 rfl (encT_len _) (encT_one _) (by first | omega | (simp; done) | (simp; omega)) (by unfold maxLen; first | omega | (simp; done) | (simp; omega)) (hz5) ?_
                intro a1 cp1 w6 hown6 hb6 hgr
                have hbel6 := hbel5.trans hb6
                rw [← hnl.out] at hown6 ⊢
                clear hb6 hgr
                go_wp2_with fail
                go_roundw
                case rel => exact ⟨i + 1, by omega, by go_num, hbel6, by rw [hsn.out, htk.out]; exact ownT_snoc hown5 hwf0.out hown6⟩
                case measure => simp [intOf]; omega
        · obtain rfl : i = m := by omega
          have htl : (timesF ops q L).length ≤ i := by rw [hm.out]; exact timesF_len _ _ _
          rw [hm.out, List.take_length] at hown
          obtain ⟨av, cv, hvv, hsv⟩ := hown.sla
          subst hvv
          have hfr := front_any _ av cv wr wr.heap.size (Nat.le_refl _) hsv (by omega)
          obtain ⟨nt, hnt⟩ : ∃ nt, nt = (timesF ops q L).length := ⟨_, rfl⟩
          rw [← hnt] at hfr ⊢
          replace hnt := Lib.hid hnt
          clear hsv hown hl htl
          go_wp2_with fail
          refine hfr.mono ?_
          rintro x w5 ⟨v, f, rfl, hof, hif, hb5⟩
          go_wp2_with fail
          go_ret
          exact ⟨v, f, rfl, ⟨hof.1.base_le hbelw.size, hof.2⟩, hif, hbelw.trans (hb5.mono hbelw.size)⟩
    · rw [show timesS ops loc L = [] by unfold timesS; rw [if_neg (by rw [← hn]; exact fun h => hin h.2)]]
      replace hn := Lib.hid hn
      replace hm := Lib.hid hm
      replace hok := Lib.hid hok
      replace hG := Lib.hid hG
      clear hp
      by_cases hl0 : loc < 0
      · have d1 : decide (loc < 0) = true := by simpa using hl0
        go_enter Tryz.func59, Tryz.ntmps59
        go_wp2_with fail
        have hb0 : Below w.heap.size w (w.alloc (.cells #[.slice ao n cap] 24)) := (Below.refl _ _).alloc (Nat.le_refl _) _
        refine (hR _ hb0).mono ?_
        rintro x w1 ⟨v, rfl, ⟨hb, rs, rfl, hP⟩, hb1⟩
        have hbel1 := hb0.trans (hb1.mono hb0.size)
        clear hb0 hb1 hR hP
        dsimp only
        go_wp2_with fail
        go_ret
        exact ⟨_, [], rfl, OwnT.nil _ _, isFront_nil, hbel1⟩
      · have d1 : decide (loc < 0) = false := by simpa using hl0
        have d2 : decide ((n : Int) ≤ loc) = true := by simp; omega
        go_enter Tryz.func59, Tryz.ntmps59
        go_wp2_with fail
        have hb0 : Below w.heap.size w (w.alloc (.cells #[.slice ao n cap] 24)) := (Below.refl _ _).alloc (Nat.le_refl _) _
        refine (hR _ hb0).mono ?_
        rintro x w1 ⟨v, rfl, ⟨hb, rs, rfl, hP⟩, hb1⟩
        have hbel1 := hb0.trans (hb1.mono hb0.size)
        clear hb0 hb1 hR hP
        dsimp only
        go_wp2_with fail
        go_ret
        exact ⟨_, [], rfl, OwnT.nil _ _, isFront_nil, hbel1⟩
  · have hR := fun W hb => reaches_no ops cap ao W B (Nat.le_trans hB (Below.size hb)) (imp_ops hx (hb.mono hB)) hok
    rw [show timesS ops loc L = [] by unfold timesS; rw [if_neg (fun h => hok h.1)]]
    have hll := hl.len
    clear hl hx
    generalize ops.length = n at hR ⊢
    generalize L.length = m at hll ⊢
    by_cases hl0 : loc < 0
    · have d1 : decide (loc < 0) = true := by simpa using hl0
      go_enter Tryz.func59, Tryz.ntmps59
      go_wp2_with fail
      have hb0 : Below w.heap.size w (w.alloc (.cells #[.slice ao n cap] 24)) := (Below.refl _ _).alloc (Nat.le_refl _) _
      refine (hR _ hb0).mono ?_
      rintro x w1 ⟨rfl, hb1⟩
      have hbel1 := hb0.trans (hb1.mono hb0.size)
      clear hb0 hb1 hR
      dsimp only
      go_wp2_with fail
      go_ret
      exact ⟨_, [], rfl, OwnT.nil _ _, isFront_nil, hbel1⟩
    · have d1 : decide (loc < 0) = false := by simpa using hl0
      have d2 : decide (0 ≤ loc) = true := by simp; omega
      have d3 : decide (((0 : Nat) : Int) ≤ loc) = true := by simp; omega
      go_enter Tryz.func59, Tryz.ntmps59
      go_wp2_with fail
      have hb0 : Below w.heap.size w (w.alloc (.cells #[.slice ao n cap] 24)) := (Below.refl _ _).alloc (Nat.le_refl _) _
      refine (hR _ hb0).mono ?_
      rintro x w1 ⟨rfl, hb1⟩
      have hbel1 := hb0.trans (hb1.mono hb0.size)
      clear hb0 hb1 hR
      dsimp only
      go_wp2_with fail
      go_ret
      exact ⟨_, [], rfl, OwnT.nil _ _, isFront_nil, hbel1⟩
end Go.Proofs.YtjmbafcpbagpdaaGreat

/- Reach: the reference's Front. -/
namespace Go.Proofs.YtjmbafcpbagpdaaGreat
open Go.RowKit Go.Shelf
set_option linter.unusedVariables false
set_option linter.unusedSimpArgs false

set_option maxRecDepth 100000 in
set_option maxHeartbeats 4000000 in
theorem rpfront_any (ops : List TOp) (cap : Nat) (ao : Option Addr) (L : List TStamp) (c2 : Nat) (ao2 : Option Addr) (loc : Int) (B : Nat) (w : World) (hB : B ≤ w.heap.size) (hx : SlA B 7 (ROp B) w ao cap ops) (hl : SlA B 3 (RStamp B) w ao2 c2 L) (hz : (L.length + 1) * 16 ≤ 140737488351232) :
    Calls Tryz.prog 15 #[.agg #[.slice ao ops.length cap], .slice ao2 L.length c2, .int .i64 loc] w fun x w' => ∃ v, x = .returned v ∧ OwnT w' w.heap.size v (frontT (timesS ops loc L)) ∧ Below w.heap.size w w' := by
  have hCk := fun W hb => rcheck_all ops cap ao W B (Nat.le_trans hB (Below.size hb)) (imp_ops hx (hb.mono hB))
  have hll := hl.len
  have hlen := hx.len
  obtain ⟨er, her⟩ : ∃ er, er = (gcheck ops).2 := ⟨_, rfl⟩
  rw [← her] at hCk
  by_cases hok : (gcheck ops).2 = 0
  · have hG := okG_of_check hok
    obtain rfl : er = 0 := her.trans hok
    have hp := fun l e r W hb => rGood_any ops cap ao l e r B W (Nat.le_trans hB (Below.size hb)) (imp_ops hx (hb.mono hB))
    simp only [hok, decide_true, Bool.true_and] at hp
    have hpos := hG.pos
    have hmost := hG.most
    obtain ⟨gb, goff, rfl, hgb, hq0⟩ := hx.addr (by omega)
    clear hq0
    have hQ := fun (a b : Nat) (hb : b < ops.length) (ha : a < ops.length) W hw => rreach_any ops cap gb goff B hG (b + 1) b a W (by omega) (Nat.le_trans hB (Below.size hw)) (imp_ops hx (Below.mono hw hB)) hb ha
    obtain ⟨n, hn⟩ : ∃ n, n = ops.length := ⟨_, rfl⟩
    obtain ⟨m, hm⟩ : ∃ m, m = L.length := ⟨_, rfl⟩
    rw [← hn] at hCk hp hQ hpos hmost hlen ⊢
    rw [← hm] at hz hll ⊢
    by_cases hin : 0 ≤ loc ∧ loc < n
    · obtain ⟨q, rfl⟩ : ∃ q : Nat, loc = q := ⟨loc.toNat, by omega⟩
      have hq : q < n := by omega
      rw [show timesS ops q L = timesF ops q L by unfold timesS; rw [if_pos ⟨hok, by omega, by omega⟩]]
      obtain ⟨i0, hi, hz0, hz1, hz2⟩ := info_parts infoT
      have d1 : decide ((q : Int) < 0) = false := by simp
      have d2 : decide ((n : Int) ≤ (q : Int)) = false := by simp; omega
      have d3 : decide (n ≤ q) = false := by simp; omega
      replace hn := Lib.hid hn
      replace hm := Lib.hid hm
      replace hok := Lib.hid hok
      replace hG := Lib.hid hG
      replace hp := Lib.hid hp
      replace hQ := Lib.hid hQ
      replace her := Lib.hid her
      go_enter Tryz.func15, Tryz.ntmps15
      go_wp2_with fail
      have hg0 := Blk.new w #[.slice (some ⟨gb, goff, none⟩) n cap] 24
      have hb0 : Below w.heap.size w (w.alloc (.cells #[.slice (some ⟨gb, goff, none⟩) n cap] 24)) := (Below.refl _ _).alloc (Nat.le_refl _) _
      refine (hCk _ hb0).mono ?_
      rintro x w1 ⟨rfl, hb1⟩
      have hg1 := hg0.below hb1 hg0.lt
      have hbel1 := hb0.trans (hb1.mono hb0.size)
      clear hb0 hb1 hg0 hCk
      have c0 := hg1.cellAt (i := 0) (v := .slice (some ⟨gb, goff, none⟩) n cap) rfl
      have hgl := hg1.lt
      dsimp only
      go_wp2_with fail
      go_loopw [9, 10] (fun v x10 wr => ∃ i : Nat, i ≤ m ∧ x10 = .int .i64 i ∧ Below w1.heap.size w1 wr ∧ OwnT wr w1.heap.size v (timesF ops q (L.take i))) (fun _ x10 _ => m - (intOf x10).toNat)
      case atStart => exact ⟨0, Nat.zero_le _, rfl, Below.refl _ _, OwnT.nil _ _⟩
      case round =>
        clear c0 hgl
        obtain ⟨i, hiL, rfl, hbel, hown⟩ := hrel
        have hbelw := hbel1.trans (hbel.mono hbel1.size)
        by_cases hlt : i < m
        · have hix : i < L.length := by rw [← hm.out]; exact hlt
          obtain ⟨b1, o1, rfl, hb1, _⟩ := hl.addr (by omega)
          obtain ⟨s, hs⟩ : ∃ s, L[i] = s := ⟨_, rfl⟩
          have hes := fun W (hW : Below w.heap.size w W) => RStamp.at (imp_stamps hl (hW.mono hB)) hix hs
          obtain ⟨e0, e1, e2, wf0, wf1, wf2⟩ := hes wr hbelw
          have hsn := timesF_snoc (ops := ops) (loc := (q : Int)) hix hs
          have htl : (timesF ops q (L.take i)).length ≤ i := Nat.le_trans (timesF_len _ _ _) (by simp; omega)
          obtain ⟨T, hT⟩ : ∃ T, T = timesF ops q (L.take i) := ⟨_, rfl⟩
          rw [← hT] at hown hsn htl
          have hsz := hbel.size
          have hg2 := hg1.below hbel hg1.lt
          have c0 := hg2.cellAt (i := 0) (v := .slice (some ⟨gb, goff, none⟩) n cap) rfl
          have hgl := hg2.lt
          have hb1w : b1 < wr.heap.size := by have := hbelw.size; omega
          obtain ⟨gv, hgv⟩ : ∃ g, g = goodS ops s.fLoc s.fT.fEpoch s.fT.fRound := ⟨_, rfl⟩
          have hpg := hp.out s.fLoc s.fT.fEpoch s.fT.fRound
          rw [← hgv] at hpg
          have htf : gv = false → timeOf ops q s = [] := fun h => by unfold timeOf; rw [← hgv, h]; rfl
          have htt : gv = true → ∃ k : Nat, s.fLoc = k ∧ k < n ∧ timeOf ops q s = if k = q then [s.fT] else if rch ops k q then [⟨s.fT.fEpoch, 0⟩] else [] := fun h => by
            obtain ⟨k, e1, e2⟩ := goodS_in (hgv.symm.trans h)
            refine ⟨k, e1, by rw [hn.out]; exact e2, ?_⟩
            unfold timeOf
            rw [← hgv, h, if_pos rfl, e1, Int.toNat_natCast, Int.toNat_natCast]
            by_cases hkq : k = q
            · rw [if_pos (by omega), if_pos hkq]
            · rw [if_neg (by omega), if_neg hkq]
          replace hsn := Lib.hid hsn
          replace hT := Lib.hid hT
          replace htf := Lib.hid htf
          replace htt := Lib.hid htt
          replace hs := Lib.hid hs
          replace hes := Lib.hid hes
          have hwfT : wfT s.fT := ⟨wf1, wf2⟩
          have hwf0 : wfT ⟨s.fT.fEpoch, 0⟩ := ⟨wf1, by simp only; decide⟩
          replace hwfT := Lib.hid hwfT
          replace hwf0 := Lib.hid hwf0
          clear hgv wf0 wf1 wf2
          obtain ⟨av, cv, hvv, _, _, _⟩ := hown.1.slice
          subst hvv
          obtain ⟨nl, hnl⟩ : ∃ nl, nl = T.length := ⟨_, rfl⟩
          rw [← hnl] at hown ⊢
          replace hnl := Lib.hid hnl
          go_wp2_with fail
          refine wp_region_quiet_tail 5 (by kernel_rfl) (by kernel_rfl) ?_
          simp only [List.take_succ_cons, List.take_zero, List.drop_succ_cons, List.drop_zero]
          repeat (go_big_quiet_step (fail))
          refine wpQuiet_nil ?_
          intro _ hw'
          obtain ⟨nq, hw''⟩ := hw'
          subst hw''
          go_wp2_with fail
          refine (hpg _ (below_drewN hbelw nq)).mono ?_
          rintro x w4 ⟨rfl, hb4⟩
          have hbel4 := (below_drewN hbel nq).trans (hb4.mono (below_drewN hbel nq).size)
          have hbelw4 := hbel1.trans (hbel4.mono hbel1.size)
          have hown4 : OwnT w4 w1.heap.size (.slice av nl cv) T := ⟨(hown.1.drewN nq).below hb4 (Nat.le_refl _), hown.2⟩
          obtain ⟨e0, e1, e2, _⟩ := hes.out w4 hbelw4
          have hg4 := hg1.below hbel4 hg1.lt
          clear c0 hpg hown hbel hbelw hg2 hb4
          have c0 := hg4.cellAt (i := 0) (v := .slice (some ⟨gb, goff, none⟩) n cap) rfl
          have hz4 := hbel4.size
          have hgl4 := hg4.lt
          have hb1w4 : b1 < w4.heap.size := by have := hbelw4.size; omega
          cases gv with
          | false =>
            have htf2 := htf.out (by trivial)
            replace htf2 := Lib.hid htf2
            dsimp only
            go_wp2_with fail
            go_roundw
            case rel => exact ⟨i + 1, by omega, by go_num, hbel4, by rw [hsn.out, htf2.out, List.append_nil]; exact hown4⟩
            case measure => simp [intOf]; omega
          | true =>
            obtain ⟨k, hsk, hkn, htk⟩ := htt.out (by trivial)
            rw [hsk] at e0
            replace hsk := Lib.hid hsk
            dsimp only
            by_cases hkq : k = q
            · rw [if_pos hkq] at htk
              have heq : ((k : Int) == (q : Int)) = true := by rw [hkq]; simp
              replace htk := Lib.hid htk
              clear hkq
              go_wp2_with (at_builtin; refine Shut.out ?stopA)
              unfold Shut
              refine wpList_app1 rfl _ _ 49 rfl Tryz.underlying49 hi hz0 hz1 hz2 rfl (by decide) (enc := encT) s.fT rfl hown4.1 rfl (encT_len _) (encT_one _) (by first | omega | (simp; done) | (simp; omega)) (by unfold maxLen; first | omega | (simp; done) | (simp; omega)) (hz4) ?_
              intro a1 cp1 w5 hown5 hb5 hgr
              have hbel5 := hbel4.trans hb5
              rw [← hnl.out] at hown5 ⊢
              clear hb5 hgr e0 e1 e2
              go_wp2_with fail
              refine ⟨?_, ?measure⟩
              repeat apply Exists.intro
              refine ⟨?rel, rfl⟩
              case rel => exact ⟨i + 1, by omega, by go_num, hbel5, by rw [hsn.out, htk.out]; exact ownT_snoc hown4 hwfT.out hown5⟩
              case measure => simp [intOf]; omega
            · rw [if_neg hkq] at htk
              have heq : ((k : Int) == (q : Int)) = false := by simp; omega
              have hQ2 := hQ.out k q hq hkn
              generalize rch ops k q = rv at htk hQ2
              replace htk := Lib.hid htk
              clear hkq
              go_wp2_with fail
              refine wp_region_quiet_tail 7 (by kernel_rfl) (by kernel_rfl) ?_
              simp only [List.take_succ_cons, List.take_zero, List.drop_succ_cons, List.drop_zero]
              repeat (go_big_quiet_step (fail))
              refine wpQuiet_nil ?_
              intro _ hw'
              obtain ⟨nq2, hw''⟩ := hw'
              subst hw''
              go_wp2_with fail
              refine (hQ2 _ (below_drewN hbelw4 nq2)).mono ?_
              rintro x w5 ⟨rfl, hb5⟩
              have hbel5 := (below_drewN hbel4 nq2).trans (hb5.mono (below_drewN hbel4 nq2).size)
              have hbelw5 := hbel1.trans (hbel5.mono hbel1.size)
              have hown5 : OwnT w5 w1.heap.size (.slice av nl cv) T := ⟨(hown4.1.drewN nq2).below hb5 (Nat.le_refl _), hown4.2⟩
              obtain ⟨e0, e1, e2, _⟩ := hes.out w5 hbelw5
              have hz5 := hbel5.size
              have hb1w5 : b1 < w5.heap.size := by have := hbelw5.size; omega
              clear hb5 hown4 hbel4 hQ2 c0
              cases rv with
              | false =>
                dsimp only
                go_wp2_with fail
                refine ⟨?_, ?measure⟩
                repeat apply Exists.intro
                refine ⟨?rel, rfl⟩
                case rel => exact ⟨i + 1, by omega, by go_num, hbel5, by rw [hsn.out, htk.out]; simpa using hown5⟩
                case measure => simp [intOf]; omega
              | true =>
                dsimp only
                go_wp2_with (at_builtin; refine Shut.out ?stopB)
                unfold Shut
                refine wpList_app1 rfl _ _ 49 rfl Tryz.underlying49 hi hz0 hz1 hz2 rfl (by decide) (enc := encT) ⟨s.fT.fEpoch, 0⟩ rfl hown5.1 rfl (encT_len _) (encT_one _) (by first | omega | (simp; done) | (simp; omega)) (by unfold maxLen; first | omega | (simp; done) | (simp; omega)) (hz5) ?_
                intro a1 cp1 w6 hown6 hb6 hgr
                have hbel6 := hbel5.trans hb6
                rw [← hnl.out] at hown6 ⊢
                clear hb6 hgr
                go_wp2_with fail
                refine ⟨?_, ?measure⟩
                repeat apply Exists.intro
                refine ⟨?rel, rfl⟩
                case rel => exact ⟨i + 1, by omega, by go_num, hbel6, by rw [hsn.out, htk.out]; exact ownT_snoc hown5 hwf0.out hown6⟩
                case measure => simp [intOf]; omega
        · obtain rfl : i = m := by omega
          have htl : (timesF ops q L).length ≤ i := by rw [hm.out]; exact timesF_len _ _ _
          rw [hm.out, List.take_length] at hown
          obtain ⟨av, cv, hvv, hsv⟩ := hown.sla
          subst hvv
          have hfr := rfront_any _ av cv wr wr.heap.size (Nat.le_refl _) hsv (by omega)
          obtain ⟨nt, hnt⟩ : ∃ nt, nt = (timesF ops q L).length := ⟨_, rfl⟩
          rw [← hnt] at hfr ⊢
          replace hnt := Lib.hid hnt
          clear hsv hown hl htl
          go_wp2_with fail
          refine hfr.mono ?_
          rintro x w5 ⟨v, rfl, hof, hb5⟩
          go_wp2_with fail
          go_ret
          exact ⟨v, rfl, ⟨hof.1.base_le hbelw.size, hof.2⟩, hbelw.trans (hb5.mono hbelw.size)⟩
    · rw [show timesS ops loc L = [] by unfold timesS; rw [if_neg (by rw [← hn]; exact fun h => hin h.2)]]
      replace hn := Lib.hid hn
      replace hm := Lib.hid hm
      replace hok := Lib.hid hok
      replace hG := Lib.hid hG
      replace her := Lib.hid her
      clear hp hQ
      by_cases hl0 : loc < 0
      · have d1 : decide (loc < 0) = true := by simpa using hl0
        go_enter Tryz.func15, Tryz.ntmps15
        go_wp2_with fail
        have hb0 : Below w.heap.size w (w.alloc (.cells #[.slice (some ⟨gb, goff, none⟩) n cap] 24)) := (Below.refl _ _).alloc (Nat.le_refl _) _
        refine (hCk _ hb0).mono ?_
        rintro x w1 ⟨rfl, hb1⟩
        have hbel1 := hb0.trans (hb1.mono hb0.size)
        clear hb0 hb1 hCk
        dsimp only
        go_wp2_with fail
        go_ret
        exact ⟨_, rfl, OwnT.nil _ _, hbel1⟩
      · have d1 : decide (loc < 0) = false := by simpa using hl0
        have d2 : decide ((n : Int) ≤ loc) = true := by simp; omega
        go_enter Tryz.func15, Tryz.ntmps15
        go_wp2_with fail
        have hg0 := Blk.new w #[.slice (some ⟨gb, goff, none⟩) n cap] 24
        have hb0 : Below w.heap.size w (w.alloc (.cells #[.slice (some ⟨gb, goff, none⟩) n cap] 24)) := (Below.refl _ _).alloc (Nat.le_refl _) _
        refine (hCk _ hb0).mono ?_
        rintro x w1 ⟨rfl, hb1⟩
        have hbel1 := hb0.trans (hb1.mono hb0.size)
        have c0 := (hg0.below hb1 hg0.lt).cellAt (i := 0) (v := .slice (some ⟨gb, goff, none⟩) n cap) rfl
        clear hb0 hb1 hCk hg0
        dsimp only
        go_wp2_with fail
        go_ret
        exact ⟨_, rfl, OwnT.nil _ _, hbel1⟩
  · rw [show timesS ops loc L = [] by unfold timesS; rw [if_neg (fun h => hok h.1)]]
    have hne : ((er : Int) != 0) = true := by rw [her]; simpa using hok
    replace her := Lib.hid her
    clear hl hx hok
    generalize ops.length = n at hCk hlen ⊢
    generalize L.length = m at hll ⊢
    go_enter Tryz.func15, Tryz.ntmps15
    go_wp2_with fail
    have hb0 : Below w.heap.size w (w.alloc (.cells #[.slice ao n cap] 24)) := (Below.refl _ _).alloc (Nat.le_refl _) _
    refine (hCk _ hb0).mono ?_
    rintro x w1 ⟨rfl, hb1⟩
    have hbel1 := hb0.trans (hb1.mono hb0.size)
    clear hb0 hb1 hCk
    dsimp only
    go_wp2_with fail
    go_ret
    exact ⟨_, rfl, OwnT.nil _ _, hbel1⟩
end Go.Proofs.YtjmbafcpbagpdaaGreat

/- Reach: what a front covers could come: plain Lean; the walk of ReachFronts. -/
namespace Go.Proofs.YtjmbafcpbagpdaaGreat
open Go.RowKit Go.Shelf
set_option linter.unusedVariables false
set_option linter.unusedSimpArgs false

/-- The variables of ReachFronts. -/
structure FSt (w wr : World) (ao : Option Addr) (n cap : Nat) (l0 e0 r0 : Int) : Prop where
  bel : Below w.heap.size w wr
  g : Blk wr w.heap.size #[.slice ao n cap] 24
  a : Blk wr (w.heap.size + 1) #[.int .i64 l0, .int .i64 e0, .int .i64 r0] 59
namespace FSt
variable {w wr wr' : World} {ao : Option Addr} {n cap : Nat} {l0 e0 r0 : Int}
theorem below (h : FSt w wr ao n cap l0 e0 r0) (k : Below wr.heap.size wr wr') : FSt w wr' ao n cap l0 e0 r0 :=
  ⟨h.bel.trans (k.mono h.bel.size), h.g.below k h.g.lt, h.a.below k h.a.lt⟩
theorem facts (h : FSt w wr ao n cap l0 e0 r0) : wr.cell? ⟨w.heap.size, 0, none⟩ = some (.slice ao n cap) ∧
    wr.cell? ⟨w.heap.size + 1, 0, none⟩ = some (.int .i64 l0) ∧ wr.cell? ⟨w.heap.size + 1, 1, none⟩ = some (.int .i64 e0) ∧ wr.cell? ⟨w.heap.size + 1, 2, none⟩ = some (.int .i64 r0) ∧ w.heap.size + 1 < wr.heap.size :=
  ⟨h.g.cellAt rfl, h.a.cellAt rfl, h.a.cellAt rfl, h.a.cellAt rfl, h.a.lt⟩
end FSt

end Go.Proofs.YtjmbafcpbagpdaaGreat
