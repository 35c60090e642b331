/- Progress: the document's Count, Done. -/
import Derived.Test.YtbholbjegfnpdaaP2
namespace Go.Proofs.Ytbholbjegfnpdaa
open Go.RowKit Go.Shelf Go.Maps
attribute [local go_sem] Oper.semAt_some
set_option linter.unusedVariables false
set_option linter.unusedSimpArgs false

set_option maxRecDepth 100000 in
set_option maxHeartbeats 2000000 in
theorem rcnt_any (mk : Nat) (gv : Value) (L : List TCount) (aL : Option Addr) (cL : Nat) (s : TStamp) (w : World) (hB : Blk w mk #[gv, .slice aL L.length cL] 59) (hL : SlA w.heap.size 4 (RCount w.heap.size) w aL cL L) :
    Calls Try.prog 21 #[.pointer (some ⟨mk, 0, none⟩), .agg #[.int .i64 s.fLoc, .int .i64 s.fT.fEpoch, .int .i64 s.fT.fRound]] w fun e w' => e = .returned (.int .i64 (cntL L s)) ∧ Below w.heap.size w w' := by
  have hlen := hL.len
  obtain ⟨n, hn⟩ : ∃ n, n = L.length := ⟨_, rfl⟩
  obtain ⟨r, hr⟩ : ∃ r, r = cntL L s := ⟨_, rfl⟩
  rw [← hn] at hB hlen
  rw [← hr]
  replace hn := Lib.hid hn
  go_enter Try.func21, Try.ntmps21
  go_upto_region 1 with fail
  refine Code.wp_world ?_
  intro w1 hw1
  have hb1 : Below w.heap.size w w1 := by rw [hw1]; exact (Below.refl _ _).alloc (Nat.le_refl _) _
  have hC1 : Blk w1 w.heap.size #[.int .i64 s.fLoc, .int .i64 s.fT.fEpoch, .int .i64 s.fT.fRound] 37 := by rw [hw1]; exact Blk.new _ _ _
  obtain ⟨zb, hzb⟩ : ∃ zb, zb = w.heap.size := ⟨_, rfl⟩
  rw [← hzb] at hC1 ⊢
  have hz1 : zb < w1.heap.size := hC1.lt
  replace hzb := Lib.hid hzb
  clear hw1
  go_wp2_with fail
  go_loopw [5] (fun x5 wr => ∃ i : Nat, i ≤ n ∧ x5 = .int .i64 i ∧ Below w1.heap.size w1 wr ∧ Hid (cntL (L.drop i) s = r)) (fun x5 _ => n - (intOf x5).toNat)
  case atStart => exact ⟨0, Nat.zero_le _, rfl, Below.refl _ _, Lib.hid (by rw [List.drop_zero, hr])⟩
  case round =>
    obtain ⟨i, hi, rfl, hbr, hI⟩ := hrel
    have hbw := hb1.trans (hbr.mono hb1.size)
    have hBr := hB.below hbw hB.lt
    have m1 := hBr.cellAt (i := 1) (v := .slice aL n cL) rfl
    by_cases hin : i < n
    · have d1 : decide ((i : Int) < (n : Int)) = true := by simp; omega
      have hiL : i < L.length := by rw [← hn.out]; exact hin
      have hsr := hL.imp hbw (Nat.le_refl _) (fun _ _ _ h => h.imp hbw (Nat.le_refl _))
      obtain ⟨b2, off2, rfl, hb2l, _⟩ := hsr.addr (by omega)
      obtain ⟨x, hx⟩ : ∃ x, L[i] = x := ⟨_, rfl⟩
      obtain ⟨e0, e1, e2, e3, _⟩ := RCount.at hsr hiL hx
      have hCr := hC1.below hbr hz1
      have c0 := hCr.cellAt (i := 0) (v := .int .i64 s.fLoc) rfl
      have c1 := hCr.cellAt (i := 1) (v := .int .i64 s.fT.fEpoch) rfl
      have c2 := hCr.cellAt (i := 2) (v := .int .i64 s.fT.fRound) rfl
      have f0 := Wd.cell e0 (World.lt_of_cell e0)
      have f1 := Wd.cell e1 (World.lt_of_cell e1)
      have f2 := Wd.cell e2 (World.lt_of_cell e2)
      have f3 := Wd.cell e3 (World.lt_of_cell e3)
      have g0 := Wd.cell c0 (World.lt_of_cell c0)
      have g1 := Wd.cell c1 (World.lt_of_cell c1)
      have g2 := Wd.cell c2 (World.lt_of_cell c2)
      have h1 := Wd.cell m1 (World.lt_of_cell m1)
      have hI2 := hI.out
      rw [List.drop_eq_getElem_cons hiL, hx, cntL_cons] at hI2
      have hsm := fun W => rsame_any x.fS s W
      clear hsr e0 e1 e2 e3 c0 c1 c2 hCr hI
      by_cases heq : x.fS = s
      · rw [if_pos heq] at hI2
        rw [decide_eq_true heq] at hsm
        replace hsm := Lib.hid hsm
        replace hI2 := Lib.hid hI2
        clear heq
        go_upto_region 4 with fail
        refine wp_region_below (by kernel_rfl) (by kernel_rfl) ?_
        repeat (go_big_quiet_step ((go_at_call 23; exact Calls.quiet_below (hsm.out _))))
        refine wpQuiet_nil ?_
        rintro _ ⟨u, rfl⟩
        have hbu := hbw.trans (u.h.mono hbw.size)
        have f3u := f3 u
        have h1u := h1 u
        obtain ⟨w4, hw4⟩ : ∃ w4, w4 = u.v := ⟨_, rfl⟩
        rw [← hw4] at hbu f3u h1u ⊢
        clear hw4 f0 f1 f2 f3 g0 g1 g2 h1 m1 hBr
        go_wp2_with fail
        go_ret
        exact ⟨by rw [← hI2.out]; rfl, hbu⟩
      · rw [if_neg heq] at hI2
        rw [decide_eq_false heq] at hsm
        replace hsm := Lib.hid hsm
        replace hI2 := Lib.hid hI2
        clear heq
        go_upto_region 4 with fail
        refine wp_region_below (by kernel_rfl) (by kernel_rfl) ?_
        repeat (go_big_quiet_step ((go_at_call 23; exact Calls.quiet_below (hsm.out _))))
        refine wpQuiet_nil ?_
        rintro _ ⟨u, rfl⟩
        have hbu := hbr.trans (u.h.mono hbr.size)
        obtain ⟨w4, hw4⟩ : ∃ w4, w4 = u.v := ⟨_, rfl⟩
        rw [← hw4] at hbu ⊢
        clear hw4 f0 f1 f2 f3 g0 g1 g2 h1 m1 hBr
        go_wp2_with fail
        go_roundw
        case rel => exact ⟨i + 1, by omega, by go_num, hbu, hI2⟩
        case measure => simp [intOf]; omega
    · have d1 : decide ((i : Int) < (n : Int)) = false := by simp; omega
      have hI2 := hI.out
      rw [List.drop_of_length_le (by rw [← hn.out]; omega)] at hI2
      go_wp2_with fail
      go_ret
      exact ⟨by rw [← hI2]; rfl, hbw⟩

theorem could_stands {ops : List TOp} {a s : TStamp} (hok : (gcheck ops).2 = 0) (ha : goodS ops a.fLoc a.fT.fEpoch a.fT.fRound = true) (hs : goodS ops s.fLoc s.fT.fEpoch s.fT.fRound = true) :
    couldS ops a.fLoc a.fT.fEpoch a.fT.fRound s.fLoc s.fT.fEpoch s.fT.fRound = stands ops s a := by
  unfold couldS wayS stands
  rw [ha, hs, decide_eq_true hok]
  by_cases h : a.fLoc = s.fLoc
  · simp [h, leT]
  · simp [h]
theorem doneC_same {ops : List TOp} {A B : List TStamp} (h : ∀ x, x ∈ A ↔ x ∈ B) (s : TStamp) : doneC ops A s = doneC ops B s := by
  unfold doneC
  congr 2
  rw [Bool.eq_iff_iff, List.any_eq_true, List.any_eq_true]
  exact ⟨fun ⟨x, h1, h2⟩ => ⟨x, (h x).1 h1, h2⟩, fun ⟨x, h1, h2⟩ => ⟨x, (h x).2 h1, h2⟩⟩

set_option maxRecDepth 100000 in
set_option maxHeartbeats 2000000 in
theorem rdone_any (mk : Nat) (ops : List TOp) (ao : Option Addr) (cap : Nat) (L : List TCount) (aL : Option Addr) (cL : Nat) (s : TStamp) (w : World) (hB : Blk w mk #[.slice ao ops.length cap, .slice aL L.length cL] 59) (hg : SlA w.heap.size 7 (ROp w.heap.size) w ao cap ops) (hL : SlA w.heap.size 4 (RCount w.heap.size) w aL cL L)
    (hz : (L.length + 1) * 24 ≤ 140737488355328) (hok : (gcheck ops).2 = 0) (hgd : ∀ a ∈ aliveL L, goodS ops a.fLoc a.fT.fEpoch a.fT.fRound = true) :
    Calls Try.prog 19 #[.pointer (some ⟨mk, 0, none⟩), .agg #[.int .i64 s.fLoc, .int .i64 s.fT.fEpoch, .int .i64 s.fT.fRound]] w fun e w' => e = .returned (.bool (doneC ops (aliveL L) s)) ∧ Below w.heap.size w w' := by
  have hglen := hg.len
  have hGd := fun W (hW : Below w.heap.size w W) => rGood_any ops cap ao s.fLoc s.fT.fEpoch s.fT.fRound w.heap.size W hW.size (imp_ops hg hW)
  have hCd := fun W (hW : Below w.heap.size w W) (a : TStamp) => rcould_any ops cap ao a.fLoc a.fT.fEpoch a.fT.fRound s.fLoc s.fT.fEpoch s.fT.fRound w.heap.size W hW.size (imp_ops hg hW)
  have hAl := fun W (hW : Below w.heap.size w W) => ralive_any mk (.slice ao ops.length cap) L aL cL W (hB.below hW hB.lt) (hL.imp hW hW.size (fun _ _ _ h => h.imp hW hW.size)) hz
  obtain ⟨n, hn⟩ : ∃ n, n = ops.length := ⟨_, rfl⟩
  obtain ⟨m, hm⟩ : ∃ m, m = L.length := ⟨_, rfl⟩
  rw [← hn] at hB hGd hCd hglen
  rw [← hm] at hB
  replace hn := Lib.hid hn
  replace hm := Lib.hid hm
  rw [decide_eq_true hok, Bool.true_and] at hGd
  by_cases hs : goodS ops s.fLoc s.fT.fEpoch s.fT.fRound = true
  · have hdn : doneC ops (aliveL L) s = !(aliveL L).any (stands ops s) := by unfold doneC; rw [hs, Bool.true_and]
    rw [hdn]
    have hst : ∀ a ∈ aliveL L, couldS ops a.fLoc a.fT.fEpoch a.fT.fRound s.fLoc s.fT.fEpoch s.fT.fRound = stands ops s a := fun a ha => could_stands hok (hgd a ha) hs
    rw [hs] at hGd
    obtain ⟨r, hr⟩ : ∃ r, r = (aliveL L).any (stands ops s) := ⟨_, rfl⟩
    rw [← hr]
    replace hr := Lib.hid hr
    replace hAl := Lib.hid hAl
    replace hCd := Lib.hid hCd
    replace hst := Lib.hid hst
    clear hdn hs hgd hz hok
    replace hGd := Lib.hid hGd
    go_enter Try.func19, Try.ntmps19
    go_upto_region 1 with fail
    refine Code.wp_world ?_
    intro w1 hw1
    have hb1 : Below w.heap.size w w1 := by rw [hw1]; exact (Below.refl _ _).alloc (Nat.le_refl _) _
    have hC1 : Blk w1 w.heap.size #[.int .i64 s.fLoc, .int .i64 s.fT.fEpoch, .int .i64 s.fT.fRound] 37 := by rw [hw1]; exact Blk.new _ _ _
    obtain ⟨zb, hzb⟩ : ∃ zb, zb = w.heap.size := ⟨_, rfl⟩
    rw [← hzb] at hC1 ⊢
    replace hzb := Lib.hid hzb
    clear hw1
    have m0 := (hB.below hb1 hB.lt).cellAt (i := 0) (v := .slice ao n cap) rfl
    have c0 := hC1.cellAt (i := 0) (v := .int .i64 s.fLoc) rfl
    have c1 := hC1.cellAt (i := 1) (v := .int .i64 s.fT.fEpoch) rfl
    have c2 := hC1.cellAt (i := 2) (v := .int .i64 s.fT.fRound) rfl
    have h0 := Wd.cell m0 (World.lt_of_cell m0)
    have g0 := Wd.cell c0 (World.lt_of_cell c0)
    have g1 := Wd.cell c1 (World.lt_of_cell c1)
    have g2 := Wd.cell c2 (World.lt_of_cell c2)
    have hs1 := hb1.size
    refine wp_region_below (by kernel_rfl) (by kernel_rfl) ?_
    repeat (go_big_quiet_step ((go_at_call 27; exact Calls.quiet_below (hGd.out _ (hb1.trans (Below.mono (Wd.h _) hs1))))))
    refine wpQuiet_nil ?_
    rintro _ ⟨u, rfl⟩
    have hb2 := hb1.trans (u.h.mono hb1.size)
    have hC2 := hC1.below u.h hC1.lt
    obtain ⟨w2, hw2⟩ : ∃ w2, w2 = u.v := ⟨_, rfl⟩
    rw [← hw2] at hb2 hC2 ⊢
    clear hw2 h0 g0 g1 g2 m0 c0 c1 c2 hs1 hC1 hGd
    go_wp2_with (go_at_call 38; refine Shut.out ?ka)
    unfold Shut
    refine (hAl.out w2 hb2).mono ?_
    rintro e w3 ⟨v, rfl, hO, hb3⟩
    obtain ⟨av, cv, rfl, hA⟩ := OwnL.sla (E := fun _ cs x => cs = encS x) hO encS_len (fun _ _ => rfl)
    obtain ⟨A, hAe⟩ : ∃ A, A = aliveL L := ⟨_, rfl⟩
    rw [← hAe] at hA hst ⊢
    have hAlen := hA.len
    obtain ⟨k, hk⟩ : ∃ k, k = A.length := ⟨_, rfl⟩
    rw [← hk] at hAlen ⊢
    have hC3 := hC2.below hb3 hC2.lt
    have hb03 := hb2.trans (hb3.mono hb2.size)
    replace hk := Lib.hid hk
    replace hAe := Lib.hid hAe
    clear hAl hO hC2 hb2 hb3
    dsimp only
    go_wp2_with fail
    go_loopw [6] (fun x6 wr => ∃ i : Nat, i ≤ k ∧ x6 = .int .i64 i ∧ Below w3.heap.size w3 wr ∧ Hid ((A.take i).any (stands ops s) = false)) (fun x6 _ => k - (intOf x6).toNat)
    case atStart => exact ⟨0, Nat.zero_le _, rfl, Below.refl _ _, Lib.hid rfl⟩
    case round =>
      obtain ⟨i, hi, rfl, hbr, hI⟩ := hrel
      have hbw := hb03.trans (hbr.mono hb03.size)
      by_cases hin : i < k
      · have d1 : decide ((i : Int) < (k : Int)) = true := by simp; omega
        have hiA : i < A.length := by rw [← hk.out]; exact hin
        have hAr := hA.imp hbr (Nat.le_refl _) (fun _ _ _ h => h) (E' := fun _ cs x => cs = encS x)
        obtain ⟨b2, off2, rfl, hb2l, _⟩ := hAr.addr (by omega)
        obtain ⟨a, ha⟩ : ∃ a, A[i] = a := ⟨_, rfl⟩
        obtain ⟨cs, -, hcs, hce⟩ := hAr.get i hiA
        rw [ha] at hce
        subst hce
        have e0 : wr.cell? ⟨b2, off2 + i * 3, none⟩ = some (.int .i64 a.fLoc) := by have := hcs 0 (by omega); simpa [encS] using this
        have e1 : wr.cell? ⟨b2, off2 + i * 3 + 1, none⟩ = some (.int .i64 a.fT.fEpoch) := by have := hcs 1 (by omega); simpa [encS, Nat.add_assoc] using this
        have e2 : wr.cell? ⟨b2, off2 + i * 3 + 2, none⟩ = some (.int .i64 a.fT.fRound) := by have := hcs 2 (by omega); simpa [encS, Nat.add_assoc] using this
        have hCr := hC3.below hbr hC3.lt
        have c0 := hCr.cellAt (i := 0) (v := .int .i64 s.fLoc) rfl
        have c1 := hCr.cellAt (i := 1) (v := .int .i64 s.fT.fEpoch) rfl
        have c2 := hCr.cellAt (i := 2) (v := .int .i64 s.fT.fRound) rfl
        have m0 := (hB.below hbw hB.lt).cellAt (i := 0) (v := .slice ao n cap) rfl
        have h0 := Wd.cell m0 (World.lt_of_cell m0)
        have f0 := Wd.cell e0 (World.lt_of_cell e0)
        have f1 := Wd.cell e1 (World.lt_of_cell e1)
        have f2 := Wd.cell e2 (World.lt_of_cell e2)
        have g0 := Wd.cell c0 (World.lt_of_cell c0)
        have g1 := Wd.cell c1 (World.lt_of_cell c1)
        have g2 := Wd.cell c2 (World.lt_of_cell c2)
        have hcd := fun W hW => hCd.out W hW a
        rw [hst.out a (by rw [← ha]; exact List.getElem_mem hiA)] at hcd
        have htk : A.take (i + 1) = A.take i ++ [a] := by rw [List.take_succ_eq_append_getElem hiA, ha]
        have hsw := hbw.size
        clear hAr hcs e0 e1 e2 c0 c1 c2 m0 hCr
        cases hsv : stands ops s a with
        | true =>
          rw [hsv] at hcd
          replace hcd := Lib.hid hcd
          have hany : A.any (stands ops s) = true := List.any_eq_true.2 ⟨a, by rw [← ha]; exact List.getElem_mem hiA, hsv⟩
          have hr2 : Hid (r = true) := Lib.hid (by rw [hr.out, ← hAe.out, hany])
          clear hsv hany hI htk
          go_upto_region 7 with fail
          refine wp_region_below (by kernel_rfl) (by kernel_rfl) ?_
          repeat (go_big_quiet_step ((go_at_call 39; exact Calls.quiet_below (hcd.out _ (hbw.trans (Below.mono (Wd.h _) hsw))))))
          refine wpQuiet_nil ?_
          rintro _ ⟨u, rfl⟩
          have hbu := hbw.trans (u.h.mono hbw.size)
          obtain ⟨w4, hw4⟩ : ∃ w4, w4 = u.v := ⟨_, rfl⟩
          rw [← hw4] at hbu ⊢
          clear hw4 f0 f1 f2 g0 g1 g2 h0
          go_wp2_with fail
          go_ret
          exact ⟨by rw [hr2.out]; rfl, hbu⟩
        | false =>
          rw [hsv] at hcd
          replace hcd := Lib.hid hcd
          have hI2 : Hid ((A.take (i + 1)).any (stands ops s) = false) := Lib.hid (by rw [htk, List.any_append, hI.out]; simp [hsv])
          clear hsv hI htk
          go_upto_region 7 with fail
          refine wp_region_below (by kernel_rfl) (by kernel_rfl) ?_
          repeat (go_big_quiet_step ((go_at_call 39; exact Calls.quiet_below (hcd.out _ (hbw.trans (Below.mono (Wd.h _) hsw))))))
          refine wpQuiet_nil ?_
          rintro _ ⟨u, rfl⟩
          have hbu := hbr.trans (u.h.mono hbr.size)
          obtain ⟨w4, hw4⟩ : ∃ w4, w4 = u.v := ⟨_, rfl⟩
          rw [← hw4] at hbu ⊢
          clear hw4 f0 f1 f2 g0 g1 g2 h0
          go_wp2_with fail
          go_roundw
          case rel => exact ⟨i + 1, by omega, by go_num, hbu, hI2⟩
          case measure => simp [intOf]; omega
      · have d1 : decide ((i : Int) < (k : Int)) = false := by simp; omega
        have hI2 := hI.out
        rw [List.take_of_length_le (by rw [← hk.out]; omega)] at hI2
        have hr2 : Hid (r = false) := Lib.hid (by rw [hr.out, ← hAe.out, hI2])
        clear hI2
        go_wp2_with fail
        go_ret
        exact ⟨by rw [hr2.out]; rfl, hbw⟩
  · have hdn : doneC ops (aliveL L) s = false := by unfold doneC; rw [Bool.eq_false_iff.2 hs]; rfl
    rw [hdn]
    rw [Bool.eq_false_iff.2 hs] at hGd
    clear hAl hCd hs hdn hgd hz hok
    replace hGd := Lib.hid hGd
    go_enter Try.func19, Try.ntmps19
    go_upto_region 1 with fail
    refine Code.wp_world ?_
    intro w1 hw1
    have hb1 : Below w.heap.size w w1 := by rw [hw1]; exact (Below.refl _ _).alloc (Nat.le_refl _) _
    have hC1 : Blk w1 w.heap.size #[.int .i64 s.fLoc, .int .i64 s.fT.fEpoch, .int .i64 s.fT.fRound] 37 := by rw [hw1]; exact Blk.new _ _ _
    obtain ⟨zb, hzb⟩ : ∃ zb, zb = w.heap.size := ⟨_, rfl⟩
    rw [← hzb] at hC1 ⊢
    replace hzb := Lib.hid hzb
    clear hw1
    have m0 := (hB.below hb1 hB.lt).cellAt (i := 0) (v := .slice ao n cap) rfl
    have c0 := hC1.cellAt (i := 0) (v := .int .i64 s.fLoc) rfl
    have c1 := hC1.cellAt (i := 1) (v := .int .i64 s.fT.fEpoch) rfl
    have c2 := hC1.cellAt (i := 2) (v := .int .i64 s.fT.fRound) rfl
    have h0 := Wd.cell m0 (World.lt_of_cell m0)
    have g0 := Wd.cell c0 (World.lt_of_cell c0)
    have g1 := Wd.cell c1 (World.lt_of_cell c1)
    have g2 := Wd.cell c2 (World.lt_of_cell c2)
    have hs1 := hb1.size
    refine wp_region_below (by kernel_rfl) (by kernel_rfl) ?_
    repeat (go_big_quiet_step ((go_at_call 27; exact Calls.quiet_below (hGd.out _ (hb1.trans (Below.mono (Wd.h _) hs1))))))
    refine wpQuiet_nil ?_
    rintro _ ⟨u, rfl⟩
    have hb2 := hb1.trans (u.h.mono hb1.size)
    have hC2 := hC1.below u.h hC1.lt
    obtain ⟨w2, hw2⟩ : ∃ w2, w2 = u.v := ⟨_, rfl⟩
    rw [← hw2] at hb2 hC2 ⊢
    clear hw2 h0 g0 g1 g2 m0 c0 c1 c2 hs1 hC1 hGd
    go_wp2_with fail
    go_ret
    exact ⟨rfl, hb2⟩
end Go.Proofs.Ytbholbjegfnpdaa
