/- Progress: the document's before, add. -/
import Derived.Test.YtbholbjegfnpdaaP1
namespace Go.Proofs.Ytbholbjegfnpdaa
open Go.RowKit Go.Shelf Go.Maps
attribute [local go_sem] Oper.semAt_some
set_option linter.unusedVariables false
set_option linter.unusedSimpArgs false

set_option maxRecDepth 100000 in
set_option maxHeartbeats 2000000 in
theorem before_any (x y : TStamp) (w : World) :
    Calls Try.prog 51 #[.agg #[.int .i64 x.fLoc, .int .i64 x.fT.fEpoch, .int .i64 x.fT.fRound], .agg #[.int .i64 y.fLoc, .int .i64 y.fT.fEpoch, .int .i64 y.fT.fRound]] w fun e w' => e = .returned (.bool (decide (ltS x y))) ∧ Below w.heap.size w w' := by
  obtain ⟨la, ⟨ea, ra⟩⟩ := x
  obtain ⟨lb, ⟨eb, rb⟩⟩ := y
  dsimp only
  by_cases h1 : la = lb
  · have d1 : (la != lb) = false := by simpa using h1
    by_cases h2 : ea = eb
    · have d2 : (ea != eb) = false := by simpa using h2
      rw [show decide (ltS ⟨la, ⟨ea, ra⟩⟩ ⟨lb, ⟨eb, rb⟩⟩) = decide (ra < rb) by simp [ltS, h1, h2]]
      clear h1 h2
      go_enter Try.func51, Try.ntmps51
      go_wp2_with fail
      go_ret
      exact ⟨rfl, (by repeat (first | exact Below.refl _ _ | assumption | refine below_drewN ?_ _ | refine Below.drew ?_ | (refine Below.setCell ?_ (by first | omega | (simp; omega) | simp) _) | (refine Below.alloc ?_ (by first | omega | (simp; omega) | simp) _) | (refine Below.trans ?_ (Below.mono (by assumption) (by first | omega | (simp; omega) | simp)))))⟩
    · have d2 : (ea != eb) = true := by simpa using h2
      rw [show decide (ltS ⟨la, ⟨ea, ra⟩⟩ ⟨lb, ⟨eb, rb⟩⟩) = decide (ea < eb) by simp [ltS, h1, h2]]
      clear h1 h2
      go_enter Try.func51, Try.ntmps51
      go_wp2_with fail
      go_ret
      exact ⟨rfl, (by repeat (first | exact Below.refl _ _ | assumption | refine below_drewN ?_ _ | refine Below.drew ?_ | (refine Below.setCell ?_ (by first | omega | (simp; omega) | simp) _) | (refine Below.alloc ?_ (by first | omega | (simp; omega) | simp) _) | (refine Below.trans ?_ (Below.mono (by assumption) (by first | omega | (simp; omega) | simp)))))⟩
  · have d1 : (la != lb) = true := by simpa using h1
    rw [show decide (ltS ⟨la, ⟨ea, ra⟩⟩ ⟨lb, ⟨eb, rb⟩⟩) = decide (la < lb) by simp [ltS, h1]]
    clear h1
    go_enter Try.func51, Try.ntmps51
    go_wp2_with fail
    go_ret
    exact ⟨rfl, (by repeat (first | exact Below.refl _ _ | assumption | refine below_drewN ?_ _ | refine Below.drew ?_ | (refine Below.setCell ?_ (by first | omega | (simp; omega) | simp) _) | (refine Below.alloc ?_ (by first | omega | (simp; omega) | simp) _) | (refine Below.trans ?_ (Below.mono (by assumption) (by first | omega | (simp; omega) | simp)))))⟩

/-- Where the adding stands. -/
def AddI (c : TCount) (L : List TCount) (i : Nat) (O : List TCount) (d : Bool) (nv : Int) : Prop :=
  O.length ≤ i + 1 ∧ ((d = false ∧ nv = c.fN ∧ O ++ insL c (L.drop i) = insL c L) ∨ (d = true ∧ O ++ L.drop i = insL c L ∧ ∀ x ∈ L.drop i, x.fS ≠ c.fS))
theorem AddI.start (c : TCount) (L : List TCount) : AddI c L 0 [] false c.fN := ⟨by simp, .inl ⟨rfl, rfl, by simp⟩⟩
theorem drop_gt {L : List TCount} (h : SrtL L) {i : Nat} (hi : i < L.length) : ∀ x ∈ L.drop (i + 1), ltS L[i].fS x.fS := fun x hx => by
  have h1 : (L.drop i).Pairwise (fun a b => ltS a.fS b.fS) := by
    unfold SrtL at h
    rw [List.pairwise_map] at h
    exact h.sublist (List.drop_sublist i L)
  rw [List.drop_eq_getElem_cons hi, List.pairwise_cons] at h1
  exact h1.1 x hx
theorem AddI.here {c : TCount} {L O : List TCount} {i : Nat} {nv : Int} (h : AddI c L i O false nv) (hs : SrtL L) (hi : i < L.length) (hl : ltS c.fS L[i].fS) : nv = c.fN ∧ AddI c L (i + 1) (O ++ [c] ++ [L[i]]) true nv := by
  obtain ⟨h1, ⟨-, h2, h3⟩ | ⟨e, -, -⟩⟩ := h
  · refine ⟨h2, ?_⟩
    rw [List.drop_eq_getElem_cons hi, insL_here c hl] at h3
    have hO : O.length ≤ i := by
      have h4 := congrArg List.length h3
      have h5 := insL_len c L
      simp only [List.length_append, List.length_cons, List.length_drop] at h4
      omega
    exact ⟨by simp; omega, .inr ⟨rfl, by rw [← h3]; simp, fun x hx e => by
      have h6 := ltS_trans hl (drop_gt hs hi x hx)
      rw [e] at h6
      exact ltS_irrefl _ h6⟩⟩
  · cases e
theorem AddI.same {c : TCount} {L O : List TCount} {i : Nat} {nv : Int} (h : AddI c L i O false nv) (hs : SrtL L) (hi : i < L.length) (hl : L[i].fS = c.fS) : nv = c.fN ∧ AddI c L (i + 1) (O ++ [⟨c.fS, c.fN + L[i].fN⟩]) true (c.fN + L[i].fN) := by
  obtain ⟨h1, ⟨-, h2, h3⟩ | ⟨e, -, -⟩⟩ := h
  · refine ⟨h2, ?_⟩
    rw [List.drop_eq_getElem_cons hi, insL_same c hl] at h3
    exact ⟨by simp; omega, .inr ⟨rfl, by rw [← h3]; simp, fun x hx e => by
      have h6 := drop_gt hs hi x hx
      rw [e, hl] at h6
      exact ltS_irrefl _ h6⟩⟩
  · cases e
theorem AddI.pass {c : TCount} {L O : List TCount} {i : Nat} {nv : Int} (h : AddI c L i O false nv) (hi : i < L.length) (h1' : ¬ ltS c.fS L[i].fS) (hl : L[i].fS ≠ c.fS) : AddI c L (i + 1) (O ++ [L[i]]) false nv := by
  obtain ⟨h1, ⟨-, h2, h3⟩ | ⟨e, -, -⟩⟩ := h
  · rw [List.drop_eq_getElem_cons hi, insL_pass c h1' hl] at h3
    exact ⟨by simp; omega, .inl ⟨rfl, h2, by rw [← h3]; simp⟩⟩
  · cases e
theorem AddI.rest {c : TCount} {L O : List TCount} {i : Nat} {nv : Int} (h : AddI c L i O true nv) (hi : i < L.length) : L[i].fS ≠ c.fS ∧ AddI c L (i + 1) (O ++ [L[i]]) true nv := by
  obtain ⟨h1, ⟨e, -, -⟩ | ⟨-, h2, h3⟩⟩ := h
  · cases e
  · rw [List.drop_eq_getElem_cons hi] at h2 h3
    exact ⟨h3 _ List.mem_cons_self, by simp; omega, .inr ⟨rfl, by rw [← h2]; simp, fun x hx => h3 x (List.mem_cons_of_mem _ hx)⟩⟩
theorem AddI.last {c : TCount} {L O : List TCount} {d : Bool} {nv : Int} (h : AddI c L L.length O d nv) : (d = true ∧ O = insL c L) ∨ (d = false ∧ nv = c.fN ∧ O ++ [c] = insL c L) := by
  obtain ⟨h1, ⟨rfl, h2, h3⟩ | ⟨rfl, h2, -⟩⟩ := h
  · rw [List.drop_length] at h3
    exact .inr ⟨rfl, h2, h3⟩
  · rw [List.drop_length, List.append_nil] at h2
    exact .inl ⟨rfl, h2⟩

set_option maxRecDepth 100000 in
set_option maxHeartbeats 4000000 in
theorem add_any (c : TCount) (L : List TCount) (aL : Option Addr) (cL : Nat) (w : World) (hL : SlA w.heap.size 4 (RCount w.heap.size) w aL cL L) (hs : SrtL L) (hz : (L.length + 3) * 32 ≤ 140737488355328)
    (hN : ∀ x ∈ L, x.fS = c.fS → -9223372036854775808 ≤ c.fN + x.fN ∧ c.fN + x.fN ≤ 9223372036854775807) :
    Calls Try.prog 36 #[.slice aL L.length cL, .agg #[.int .i64 c.fS.fLoc, .int .i64 c.fS.fT.fEpoch, .int .i64 c.fS.fT.fRound, .int .i64 c.fN]] w fun e w' => ∃ v, e = .returned v ∧ OwnL encK w' w.heap.size 40 4 v (insL c L) ∧ Below w.heap.size w w' := by
  obtain ⟨jK, hiK, hK0, hK1, hK2⟩ := info_parts infoK
  have hlen := hL.len
  obtain ⟨n, hn⟩ : ∃ n, n = L.length := ⟨_, rfl⟩
  rw [← hn] at hlen hz ⊢
  replace hn := Lib.hid hn
  replace hN := Lib.hid hN
  replace hs := Lib.hid hs
  go_enter Try.func36, Try.ntmps36
  go_upto_region 1 with fail
  refine Code.wp_world ?_
  intro w1 hw1
  have hb1 : Below w.heap.size w w1 := by rw [hw1]; exact (Below.refl _ _).alloc (Nat.le_refl _) _
  have hC1 : Blk w1 w.heap.size #[.int .i64 c.fS.fLoc, .int .i64 c.fS.fT.fEpoch, .int .i64 c.fS.fT.fRound, .int .i64 c.fN] 40 := by rw [hw1]; exact Blk.new _ _ _
  obtain ⟨zb, hzb⟩ : ∃ zb, zb = w.heap.size := ⟨_, rfl⟩
  rw [← hzb] at hC1 ⊢
  have hz1 : zb < w1.heap.size := hC1.lt
  have hw01 : w.heap.size ≤ w1.heap.size := hb1.size
  replace hzb := Lib.hid hzb
  clear hw1
  go_wp2_with fail
  go_loopw [5, 6, 7] (fun x5 x6 x7 wr => ∃ (i : Nat) (O : List TCount) (d : Bool) (nv : Int), i ≤ n ∧ x7 = .int .i64 i ∧ x6 = .bool d ∧ OwnL encK wr w1.heap.size 40 4 x5 O ∧ Blk wr zb #[.int .i64 c.fS.fLoc, .int .i64 c.fS.fT.fEpoch, .int .i64 c.fS.fT.fRound, .int .i64 nv] 40 ∧ Below w.heap.size w wr ∧ w1.heap.size ≤ wr.heap.size ∧ Hid (AddI c L i O d nv)) (fun _ _ x7 _ => n - (intOf x7).toNat)
  case atStart => exact ⟨0, [], false, c.fN, Nat.zero_le _, rfl, rfl, OwnL.nil _ _ _ _ _, hC1, hb1, Nat.le_refl _, Lib.hid (AddI.start c L)⟩
  case round =>
    clear hC1 hb1
    obtain ⟨i, O, d, nv, hi, rfl, rfl, hO, hC, hbr, hsz, hI⟩ := hrel
    obtain ⟨av, cv, hv5, -, -, -⟩ := hO.slice
    subst hv5
    obtain ⟨k, hk⟩ : ∃ k, k = O.length := ⟨_, rfl⟩
    have hki : k ≤ n + 1 := by have := hI.out.1; omega
    rw [← hk] at hO ⊢
    replace hk := Lib.hid hk
    by_cases hin : i < n
    · have d1 : decide ((i : Int) < (n : Int)) = true := by simp; omega
      have hiL : i < L.length := by rw [← hn.out]; exact hin
      have hsr := hL.imp hbr (Nat.le_refl _) (fun _ _ _ h => h.imp hbr (Nat.le_refl _))
      obtain ⟨b2, off2, rfl, hb2l, _⟩ := hsr.addr (by omega)
      obtain ⟨x, hx⟩ : ∃ x, L[i] = x := ⟨_, rfl⟩
      obtain ⟨e0, e1, e2, e3, _⟩ := RCount.at hsr hiL hx
      have f0 := Wd.cell e0 (World.lt_of_cell e0)
      have f1 := Wd.cell e1 (World.lt_of_cell e1)
      have f2 := Wd.cell e2 (World.lt_of_cell e2)
      have c0 := hC.cellAt (i := 0) (v := .int .i64 c.fS.fLoc) rfl
      have c1 := hC.cellAt (i := 1) (v := .int .i64 c.fS.fT.fEpoch) rfl
      have c2 := hC.cellAt (i := 2) (v := .int .i64 c.fS.fT.fRound) rfl
      have g0 := Wd.cell c0 (World.lt_of_cell c0)
      have g1 := Wd.cell c1 (World.lt_of_cell c1)
      have g2 := Wd.cell c2 (World.lt_of_cell c2)
      have hbf := fun W => before_any c.fS x.fS W
      have hsm := fun W => rsame_any x.fS c.fS W
      clear hsr e0 e1 e2 e3 c0 c1 c2
      cases d with
      | true =>
        obtain ⟨hne, hI2⟩ := hI.out.rest hiL
        rw [hx] at hne hI2
        replace hI2 := Lib.hid hI2
        rw [decide_eq_false hne] at hsm
        replace hsm := Lib.hid hsm
        replace hbf := Lib.hid hbf
        clear hI hne
        go_upto_region 6 with fail
        refine wp_region_below (by kernel_rfl) (by kernel_rfl) ?_
        repeat (go_big_quiet_step (fail))
        refine wpQuiet_nil ?_
        rintro _ ⟨u, rfl⟩
        clear f0 f1 f2 g0 g1 g2 hbf
        have hO2 := OwnL.below hO u.h (Nat.le_refl _)
        have hC2 := hC.below u.h hC.lt
        have hb2 := hbr.trans (u.h.mono hbr.size)
        have hs2 := Nat.le_trans hsz u.h.size
        obtain ⟨w2, hw2⟩ : ∃ w2, w2 = u.v := ⟨_, rfl⟩
        rw [← hw2] at hO2 hC2 hb2 hs2 ⊢
        clear hw2 hO hC hbr hsz u
        obtain ⟨e0, e1, e2, e3, _⟩ := RCount.at (hL.imp hb2 (Nat.le_refl _) (fun _ _ _ h => h.imp hb2 (Nat.le_refl _))) hiL hx
        have c0 := hC2.cellAt (i := 0) (v := .int .i64 c.fS.fLoc) rfl
        have c1 := hC2.cellAt (i := 1) (v := .int .i64 c.fS.fT.fEpoch) rfl
        have c2 := hC2.cellAt (i := 2) (v := .int .i64 c.fS.fT.fRound) rfl
        have c3 := hC2.cellAt (i := 3) (v := .int .i64 nv) rfl
        have f0 := Wd.cell e0 (World.lt_of_cell e0)
        have f1 := Wd.cell e1 (World.lt_of_cell e1)
        have f2 := Wd.cell e2 (World.lt_of_cell e2)
        have g0 := Wd.cell c0 (World.lt_of_cell c0)
        have g1 := Wd.cell c1 (World.lt_of_cell c1)
        have g2 := Wd.cell c2 (World.lt_of_cell c2)
        clear e0 e1 e2 e3 c0 c1 c2 c3
        go_upto_region 9 with fail
        refine wp_region_below (by kernel_rfl) (by kernel_rfl) ?_
        repeat (go_big_quiet_step ((go_at_call 23; exact Calls.quiet_below (hsm.out _))))
        refine wpQuiet_nil ?_
        rintro _ ⟨u, rfl⟩
        clear f0 f1 f2 g0 g1 g2 hsm
        have hO4 := OwnL.below hO2 u.h (Nat.le_refl _)
        have hC4 := hC2.below u.h hC2.lt
        have hb4 := hb2.trans (u.h.mono hb2.size)
        have hs4 := Nat.le_trans hs2 u.h.size
        obtain ⟨w4, hw4⟩ : ∃ w4, w4 = u.v := ⟨_, rfl⟩
        rw [← hw4] at hO4 hC4 hb4 hs4 ⊢
        clear hw4 hO2 hC2 hb2 hs2 u
        obtain ⟨e0, e1, e2, e3, _⟩ := RCount.at (hL.imp hb4 (Nat.le_refl _) (fun _ _ _ h => h.imp hb4 (Nat.le_refl _))) hiL hx
        have c0 := hC4.cellAt (i := 0) (v := .int .i64 c.fS.fLoc) rfl
        have c1 := hC4.cellAt (i := 1) (v := .int .i64 c.fS.fT.fEpoch) rfl
        have c2 := hC4.cellAt (i := 2) (v := .int .i64 c.fS.fT.fRound) rfl
        have c3 := hC4.cellAt (i := 3) (v := .int .i64 nv) rfl
        clear c0 c1 c2 c3
        go_wp2_with (at_builtin; refine Shut.out ?k101)
        unfold Shut
        change wpList _ _ _ _ _ (w4.alloc (.cells (encK x).toArray 40))
        refine wpList_app1 rfl _ _ 41 rfl Try.underlying41 hiK hK0 hK1 hK2 rfl (by decide) (enc := encK) x rfl hO4 rfl (encK_len _) (encK_one _) (by rw [← hk.out]; omega) (by rw [← hk.out]; unfold maxLen; omega) hs4 ?_
        intro a5 cp5 w5 hown5 hbb5 hgr5
        rw [← hk.out] at hown5 ⊢
        clear hgr5
        have hC5 := hC4.below hbb5 hz1
        have hb5 := hb4.trans (hbb5.mono hw01)
        have hs5 := Nat.le_trans hs4 hbb5.size
        clear hbb5 hO4 hC4 hb4 hs4 e0 e1 e2 e3
        go_wp2_with fail
        go_roundw
        case rel => exact ⟨i + 1, O ++ [x], true, nv, by omega, by go_num, rfl, hown5, hC5, hb5, hs5, hI2⟩
        case measure => simp [intOf]; omega
      | false =>
        by_cases hlt : ltS c.fS x.fS
        · obtain ⟨hnv, hI2⟩ := hI.out.here hs.out hiL (by rw [hx]; exact hlt)
          subst hnv
          rw [hx] at hI2
          have hne : x.fS ≠ c.fS := fun e => by rw [e] at hlt; exact ltS_irrefl _ hlt
          replace hI2 := Lib.hid hI2
          rw [decide_eq_false hne] at hsm
          rw [decide_eq_true hlt] at hbf
          replace hsm := Lib.hid hsm
          replace hbf := Lib.hid hbf
          clear hI hne hlt
          go_upto_region 6 with fail
          refine wp_region_below (by kernel_rfl) (by kernel_rfl) ?_
          repeat (go_big_quiet_step ((go_at_call 51; exact Calls.quiet_below (hbf.out _))))
          refine wpQuiet_nil ?_
          rintro _ ⟨u, rfl⟩
          clear f0 f1 f2 g0 g1 g2 hbf
          have hO2 := OwnL.below hO u.h (Nat.le_refl _)
          have hC2 := hC.below u.h hC.lt
          have hb2 := hbr.trans (u.h.mono hbr.size)
          have hs2 := Nat.le_trans hsz u.h.size
          obtain ⟨w2, hw2⟩ : ∃ w2, w2 = u.v := ⟨_, rfl⟩
          rw [← hw2] at hO2 hC2 hb2 hs2 ⊢
          clear hw2 hO hC hbr hsz u
          obtain ⟨e0, e1, e2, e3, _⟩ := RCount.at (hL.imp hb2 (Nat.le_refl _) (fun _ _ _ h => h.imp hb2 (Nat.le_refl _))) hiL hx
          have c0 := hC2.cellAt (i := 0) (v := .int .i64 c.fS.fLoc) rfl
          have c1 := hC2.cellAt (i := 1) (v := .int .i64 c.fS.fT.fEpoch) rfl
          have c2 := hC2.cellAt (i := 2) (v := .int .i64 c.fS.fT.fRound) rfl
          have c3 := hC2.cellAt (i := 3) (v := .int .i64 c.fN) rfl
          clear e0 e1 e2 e3
          go_wp2_with (at_builtin; refine Shut.out ?k102)
          unfold Shut
          change wpList _ _ _ _ _ (w2.alloc (.cells (encK c).toArray 40))
          refine wpList_app1 rfl _ _ 41 rfl Try.underlying41 hiK hK0 hK1 hK2 rfl (by decide) (enc := encK) c rfl hO2 rfl (encK_len _) (encK_one _) (by rw [← hk.out]; omega) (by rw [← hk.out]; unfold maxLen; omega) hs2 ?_
          intro a3 cp3 w3 hown3 hbb3 hgr3
          rw [← hk.out] at hown3 ⊢
          clear hgr3
          have hC3 := hC2.below hbb3 hz1
          have hb3 := hb2.trans (hbb3.mono hw01)
          have hs3 := Nat.le_trans hs2 hbb3.size
          obtain ⟨k2, hk2⟩ : ∃ k2, k2 = k + 1 := ⟨_, rfl⟩
          obtain ⟨O2, hOe⟩ : ∃ O2, O2 = O ++ [c] := ⟨_, rfl⟩
          rw [← hk2] at hown3 ⊢
          rw [← hOe] at hown3 hI2
          have hO3 := hown3
          have hk3 : Hid (k2 = O2.length) := Lib.hid (by rw [hOe, List.length_append, hk2, hk.out]; rfl)
          have hki2 : k2 ≤ n + 2 := by omega
          replace hk2 := Lib.hid hk2
          replace hOe := Lib.hid hOe
          clear hown3 hbb3 hO2 hC2 hb2 hs2 c0 c1 c2 c3
          obtain ⟨e0, e1, e2, e3, _⟩ := RCount.at (hL.imp hb3 (Nat.le_refl _) (fun _ _ _ h => h.imp hb3 (Nat.le_refl _))) hiL hx
          have c0 := hC3.cellAt (i := 0) (v := .int .i64 c.fS.fLoc) rfl
          have c1 := hC3.cellAt (i := 1) (v := .int .i64 c.fS.fT.fEpoch) rfl
          have c2 := hC3.cellAt (i := 2) (v := .int .i64 c.fS.fT.fRound) rfl
          have c3 := hC3.cellAt (i := 3) (v := .int .i64 c.fN) rfl
          have f0 := Wd.cell e0 (World.lt_of_cell e0)
          have f1 := Wd.cell e1 (World.lt_of_cell e1)
          have f2 := Wd.cell e2 (World.lt_of_cell e2)
          have g0 := Wd.cell c0 (World.lt_of_cell c0)
          have g1 := Wd.cell c1 (World.lt_of_cell c1)
          have g2 := Wd.cell c2 (World.lt_of_cell c2)
          clear e0 e1 e2 e3 c0 c1 c2 c3
          go_upto_region 9 with fail
          refine wp_region_below (by kernel_rfl) (by kernel_rfl) ?_
          repeat (go_big_quiet_step ((go_at_call 23; exact Calls.quiet_below (hsm.out _))))
          refine wpQuiet_nil ?_
          rintro _ ⟨u, rfl⟩
          clear f0 f1 f2 g0 g1 g2 hsm
          have hO4 := OwnL.below hO3 u.h (Nat.le_refl _)
          have hC4 := hC3.below u.h hC3.lt
          have hb4 := hb3.trans (u.h.mono hb3.size)
          have hs4 := Nat.le_trans hs3 u.h.size
          obtain ⟨w4, hw4⟩ : ∃ w4, w4 = u.v := ⟨_, rfl⟩
          rw [← hw4] at hO4 hC4 hb4 hs4 ⊢
          clear hw4 hO3 hC3 hb3 hs3 u
          obtain ⟨e0, e1, e2, e3, _⟩ := RCount.at (hL.imp hb4 (Nat.le_refl _) (fun _ _ _ h => h.imp hb4 (Nat.le_refl _))) hiL hx
          have c0 := hC4.cellAt (i := 0) (v := .int .i64 c.fS.fLoc) rfl
          have c1 := hC4.cellAt (i := 1) (v := .int .i64 c.fS.fT.fEpoch) rfl
          have c2 := hC4.cellAt (i := 2) (v := .int .i64 c.fS.fT.fRound) rfl
          have c3 := hC4.cellAt (i := 3) (v := .int .i64 c.fN) rfl
          clear c0 c1 c2 c3
          go_wp2_with (at_builtin; refine Shut.out ?k103)
          unfold Shut
          change wpList _ _ _ _ _ (w4.alloc (.cells (encK x).toArray 40))
          refine wpList_app1 rfl _ _ 41 rfl Try.underlying41 hiK hK0 hK1 hK2 rfl (by decide) (enc := encK) x rfl hO4 rfl (encK_len _) (encK_one _) (by rw [← hk3.out]; omega) (by rw [← hk3.out]; unfold maxLen; omega) hs4 ?_
          intro a5 cp5 w5 hown5 hbb5 hgr5
          rw [← hk3.out] at hown5 ⊢
          clear hgr5
          have hC5 := hC4.below hbb5 hz1
          have hb5 := hb4.trans (hbb5.mono hw01)
          have hs5 := Nat.le_trans hs4 hbb5.size
          clear hbb5 hO4 hC4 hb4 hs4 e0 e1 e2 e3
          go_wp2_with fail
          go_roundw
          case rel => exact ⟨i + 1, O2 ++ [x], true, c.fN, by omega, by go_num, rfl, hown5, hC5, hb5, hs5, hI2⟩
          case measure => simp [intOf]; omega
        · by_cases heq : x.fS = c.fS
          · obtain ⟨hnv, hI2⟩ := hI.out.same hs.out hiL (by rw [hx]; exact heq)
            subst hnv
            rw [hx] at hI2
            have hrg := hN.out x (by rw [← hx]; exact List.getElem_mem hiL) heq
            have hwr : IntKind.i64.wrap (c.fN + x.fN) = c.fN + x.fN := IntWalk.i64_in _ (by omega)
            replace hI2 := Lib.hid hI2
            rw [decide_eq_true heq] at hsm
            rw [decide_eq_false hlt] at hbf
            replace hsm := Lib.hid hsm
            replace hbf := Lib.hid hbf
            clear hI heq hlt hrg
            go_upto_region 6 with fail
            refine wp_region_below (by kernel_rfl) (by kernel_rfl) ?_
            repeat (go_big_quiet_step ((go_at_call 51; exact Calls.quiet_below (hbf.out _))))
            refine wpQuiet_nil ?_
            rintro _ ⟨u, rfl⟩
            clear f0 f1 f2 g0 g1 g2 hbf
            have hO2 := OwnL.below hO u.h (Nat.le_refl _)
            have hC2 := hC.below u.h hC.lt
            have hb2 := hbr.trans (u.h.mono hbr.size)
            have hs2 := Nat.le_trans hsz u.h.size
            obtain ⟨w2, hw2⟩ : ∃ w2, w2 = u.v := ⟨_, rfl⟩
            rw [← hw2] at hO2 hC2 hb2 hs2 ⊢
            clear hw2 hO hC hbr hsz u
            obtain ⟨e0, e1, e2, e3, _⟩ := RCount.at (hL.imp hb2 (Nat.le_refl _) (fun _ _ _ h => h.imp hb2 (Nat.le_refl _))) hiL hx
            have c0 := hC2.cellAt (i := 0) (v := .int .i64 c.fS.fLoc) rfl
            have c1 := hC2.cellAt (i := 1) (v := .int .i64 c.fS.fT.fEpoch) rfl
            have c2 := hC2.cellAt (i := 2) (v := .int .i64 c.fS.fT.fRound) rfl
            have c3 := hC2.cellAt (i := 3) (v := .int .i64 c.fN) rfl
            have f0 := Wd.cell e0 (World.lt_of_cell e0)
            have f1 := Wd.cell e1 (World.lt_of_cell e1)
            have f2 := Wd.cell e2 (World.lt_of_cell e2)
            have g0 := Wd.cell c0 (World.lt_of_cell c0)
            have g1 := Wd.cell c1 (World.lt_of_cell c1)
            have g2 := Wd.cell c2 (World.lt_of_cell c2)
            clear e0 e1 e2 e3 c0 c1 c2 c3
            go_upto_region 9 with fail
            refine wp_region_below (by kernel_rfl) (by kernel_rfl) ?_
            repeat (go_big_quiet_step ((go_at_call 23; exact Calls.quiet_below (hsm.out _))))
            refine wpQuiet_nil ?_
            rintro _ ⟨u, rfl⟩
            clear f0 f1 f2 g0 g1 g2 hsm
            have hO4 := OwnL.below hO2 u.h (Nat.le_refl _)
            have hC4 := hC2.below u.h hC2.lt
            have hb4 := hb2.trans (u.h.mono hb2.size)
            have hs4 := Nat.le_trans hs2 u.h.size
            obtain ⟨w4, hw4⟩ : ∃ w4, w4 = u.v := ⟨_, rfl⟩
            rw [← hw4] at hO4 hC4 hb4 hs4 ⊢
            clear hw4 hO2 hC2 hb2 hs2 u
            obtain ⟨e0, e1, e2, e3, _⟩ := RCount.at (hL.imp hb4 (Nat.le_refl _) (fun _ _ _ h => h.imp hb4 (Nat.le_refl _))) hiL hx
            have c0 := hC4.cellAt (i := 0) (v := .int .i64 c.fS.fLoc) rfl
            have c1 := hC4.cellAt (i := 1) (v := .int .i64 c.fS.fT.fEpoch) rfl
            have c2 := hC4.cellAt (i := 2) (v := .int .i64 c.fS.fT.fRound) rfl
            have c3 := hC4.cellAt (i := 3) (v := .int .i64 c.fN) rfl
            have fz := hC4.frozen 3
            go_upto_region 10 with fail
            refine wp_region_quiet_tail 9 (by kernel_rfl) (by kernel_rfl) ?_
            simp only [List.take_succ_cons, List.take_zero, List.drop_succ_cons, List.drop_zero]
            repeat (go_big_quiet_step (fail))
            refine wpQuiet_nil ?_
            rintro w6 ⟨m6, hm6⟩
            have hbd : Below w4.heap.size w4 w6 := by rw [hm6]; exact below_drewN (Below.refl _ _) m6
            have hO6 := OwnL.below hO4 hbd (Nat.le_refl _)
            have hC6 := hC4.below hbd hC4.lt
            have hb6 := hb4.trans (hbd.mono hb4.size)
            have hs6 := Nat.le_trans hs4 hbd.size
            clear e0 e1 e2 e3 c0 c1 c2 c3 fz hm6 hbd hO4 hC4 hb4 hs4
            have fz := hC6.frozen 3
            have c3 := hC6.cellAt (i := 3) (v := .int .i64 c.fN) rfl
            go_upto_region 11 with fail
            refine Code.wp_world ?_
            intro w7 hw7
            have hcg : Chg (fun j => j = zb) w6 w7 := by rw [hw7]; exact (Chg.refl _ _).setCell ⟨zb, 3, none⟩ _ (fun _ => rfl)
            have hO7 := OwnL.chg hO6 hcg (fun g e e2 => by have := (OwnL.lt hO6 g e).1; omega)
            have hC7 : Blk w7 zb #[.int .i64 c.fS.fLoc, .int .i64 c.fS.fT.fEpoch, .int .i64 c.fS.fT.fRound, .int .i64 (c.fN + x.fN)] 40 := by rw [hw7]; exact hC6.set 3 _
            have hb7 : Below w.heap.size w w7 := by rw [hw7]; exact hb6.setCell (p := ⟨zb, 3, none⟩) (Nat.le_of_eq hzb.out.symm) _
            have hs7 := Nat.le_trans hs6 hcg.size
            clear hw7 hcg hO6 hC6 hb6 hs6 fz hwr c3
            obtain ⟨e0, e1, e2, e3, _⟩ := RCount.at (hL.imp hb7 (Nat.le_refl _) (fun _ _ _ h => h.imp hb7 (Nat.le_refl _))) hiL hx
            have c0 := hC7.cellAt (i := 0) (v := .int .i64 c.fS.fLoc) rfl
            have c1 := hC7.cellAt (i := 1) (v := .int .i64 c.fS.fT.fEpoch) rfl
            have c2 := hC7.cellAt (i := 2) (v := .int .i64 c.fS.fT.fRound) rfl
            have c3 := hC7.cellAt (i := 3) (v := .int .i64 (c.fN + x.fN)) rfl
            clear e0 e1 e2 e3
            go_wp2_with (at_builtin; refine Shut.out ?k104)
            unfold Shut
            change wpList _ _ _ _ _ (w7.alloc (.cells (encK (⟨c.fS, c.fN + x.fN⟩ : TCount)).toArray 40))
            refine wpList_app1 rfl _ _ 41 rfl Try.underlying41 hiK hK0 hK1 hK2 rfl (by decide) (enc := encK) (⟨c.fS, c.fN + x.fN⟩ : TCount) rfl hO7 rfl (encK_len _) (encK_one _) (by rw [← hk.out]; omega) (by rw [← hk.out]; unfold maxLen; omega) hs7 ?_
            intro a5 cp5 w5 hown5 hbb5 hgr5
            rw [← hk.out] at hown5 ⊢
            clear hgr5
            have hC5 := hC7.below hbb5 hz1
            have hb5 := hb7.trans (hbb5.mono hw01)
            have hs5 := Nat.le_trans hs7 hbb5.size
            clear hbb5 hO7 hC7 hb7 hs7 c0 c1 c2 c3
            go_wp2_with fail
            go_roundw
            case rel => exact ⟨i + 1, O ++ [⟨c.fS, c.fN + x.fN⟩], true, (c.fN + x.fN), by omega, by go_num, rfl, hown5, hC5, hb5, hs5, hI2⟩
            case measure => simp [intOf]; omega
          · have hI2 := hI.out.pass hiL (by rw [hx]; exact hlt) (by rw [hx]; exact heq)
            rw [hx] at hI2
            replace hI2 := Lib.hid hI2
            rw [decide_eq_false heq] at hsm
            rw [decide_eq_false hlt] at hbf
            replace hsm := Lib.hid hsm
            replace hbf := Lib.hid hbf
            clear hI heq hlt
            go_upto_region 6 with fail
            refine wp_region_below (by kernel_rfl) (by kernel_rfl) ?_
            repeat (go_big_quiet_step ((go_at_call 51; exact Calls.quiet_below (hbf.out _))))
            refine wpQuiet_nil ?_
            rintro _ ⟨u, rfl⟩
            clear f0 f1 f2 g0 g1 g2 hbf
            have hO2 := OwnL.below hO u.h (Nat.le_refl _)
            have hC2 := hC.below u.h hC.lt
            have hb2 := hbr.trans (u.h.mono hbr.size)
            have hs2 := Nat.le_trans hsz u.h.size
            obtain ⟨w2, hw2⟩ : ∃ w2, w2 = u.v := ⟨_, rfl⟩
            rw [← hw2] at hO2 hC2 hb2 hs2 ⊢
            clear hw2 hO hC hbr hsz u
            obtain ⟨e0, e1, e2, e3, _⟩ := RCount.at (hL.imp hb2 (Nat.le_refl _) (fun _ _ _ h => h.imp hb2 (Nat.le_refl _))) hiL hx
            have c0 := hC2.cellAt (i := 0) (v := .int .i64 c.fS.fLoc) rfl
            have c1 := hC2.cellAt (i := 1) (v := .int .i64 c.fS.fT.fEpoch) rfl
            have c2 := hC2.cellAt (i := 2) (v := .int .i64 c.fS.fT.fRound) rfl
            have c3 := hC2.cellAt (i := 3) (v := .int .i64 nv) rfl
            have f0 := Wd.cell e0 (World.lt_of_cell e0)
            have f1 := Wd.cell e1 (World.lt_of_cell e1)
            have f2 := Wd.cell e2 (World.lt_of_cell e2)
            have g0 := Wd.cell c0 (World.lt_of_cell c0)
            have g1 := Wd.cell c1 (World.lt_of_cell c1)
            have g2 := Wd.cell c2 (World.lt_of_cell c2)
            clear e0 e1 e2 e3 c0 c1 c2 c3
            go_upto_region 9 with fail
            refine wp_region_below (by kernel_rfl) (by kernel_rfl) ?_
            repeat (go_big_quiet_step ((go_at_call 23; exact Calls.quiet_below (hsm.out _))))
            refine wpQuiet_nil ?_
            rintro _ ⟨u, rfl⟩
            clear f0 f1 f2 g0 g1 g2 hsm
            have hO4 := OwnL.below hO2 u.h (Nat.le_refl _)
            have hC4 := hC2.below u.h hC2.lt
            have hb4 := hb2.trans (u.h.mono hb2.size)
            have hs4 := Nat.le_trans hs2 u.h.size
            obtain ⟨w4, hw4⟩ : ∃ w4, w4 = u.v := ⟨_, rfl⟩
            rw [← hw4] at hO4 hC4 hb4 hs4 ⊢
            clear hw4 hO2 hC2 hb2 hs2 u
            obtain ⟨e0, e1, e2, e3, _⟩ := RCount.at (hL.imp hb4 (Nat.le_refl _) (fun _ _ _ h => h.imp hb4 (Nat.le_refl _))) hiL hx
            have c0 := hC4.cellAt (i := 0) (v := .int .i64 c.fS.fLoc) rfl
            have c1 := hC4.cellAt (i := 1) (v := .int .i64 c.fS.fT.fEpoch) rfl
            have c2 := hC4.cellAt (i := 2) (v := .int .i64 c.fS.fT.fRound) rfl
            have c3 := hC4.cellAt (i := 3) (v := .int .i64 nv) rfl
            clear c0 c1 c2 c3
            go_wp2_with (at_builtin; refine Shut.out ?k105)
            unfold Shut
            change wpList _ _ _ _ _ (w4.alloc (.cells (encK x).toArray 40))
            refine wpList_app1 rfl _ _ 41 rfl Try.underlying41 hiK hK0 hK1 hK2 rfl (by decide) (enc := encK) x rfl hO4 rfl (encK_len _) (encK_one _) (by rw [← hk.out]; omega) (by rw [← hk.out]; unfold maxLen; omega) hs4 ?_
            intro a5 cp5 w5 hown5 hbb5 hgr5
            rw [← hk.out] at hown5 ⊢
            clear hgr5
            have hC5 := hC4.below hbb5 hz1
            have hb5 := hb4.trans (hbb5.mono hw01)
            have hs5 := Nat.le_trans hs4 hbb5.size
            clear hbb5 hO4 hC4 hb4 hs4 e0 e1 e2 e3
            go_wp2_with fail
            go_roundw
            case rel => exact ⟨i + 1, O ++ [x], false, nv, by omega, by go_num, rfl, hown5, hC5, hb5, hs5, hI2⟩
            case measure => simp [intOf]; omega
    · have d1 : decide ((i : Int) < (n : Int)) = false := by simp; omega
      have hI2 := hI.out
      rw [show i = L.length by rw [← hn.out]; omega] at hI2
      rcases hI2.last with ⟨rfl, hO2⟩ | ⟨rfl, hnv, hO2⟩
      · rw [hO2] at hO
        clear hI hI2 hO2
        go_wp2_with fail
        go_ret
        exact ⟨_, rfl, OwnL.base_le hO hw01, hbr⟩
      · subst hnv
        replace hO2 := Lib.hid hO2
        clear hI hI2
        have c0 := hC.cellAt (i := 0) (v := .int .i64 c.fS.fLoc) rfl
        have c1 := hC.cellAt (i := 1) (v := .int .i64 c.fS.fT.fEpoch) rfl
        have c2 := hC.cellAt (i := 2) (v := .int .i64 c.fS.fT.fRound) rfl
        have c3 := hC.cellAt (i := 3) (v := .int .i64 c.fN) rfl
        go_wp2_with (at_builtin; refine Shut.out ?k106)
        unfold Shut
        change wpList _ _ _ _ _ (wr.alloc (.cells (encK c).toArray 40))
        refine wpList_app1 rfl _ _ 41 rfl Try.underlying41 hiK hK0 hK1 hK2 rfl (by decide) (enc := encK) c rfl hO rfl (encK_len _) (encK_one _) (by rw [← hk.out]; omega) (by rw [← hk.out]; unfold maxLen; omega) hsz ?_
        intro a5 cp5 w5 hown5 hbb5 hgr5
        rw [← hk.out] at hown5 ⊢
        clear hgr5
        rw [hO2.out] at hown5
        have hb5 := hbr.trans (hbb5.mono hw01)
        clear hbb5 hO hC hbr c0 c1 c2 c3
        go_wp2_with fail
        go_ret
        exact ⟨_, rfl, OwnL.base_le hown5 hw01, hb5⟩
end Go.Proofs.Ytbholbjegfnpdaa
