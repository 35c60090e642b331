/- Model: the document's Order (by merging halves) puts pairs in their order. -/
import Derived.Test.YtbianedgogdeeaaMv
import Derived.Test.YtbianedgogdeeaaL11
namespace Go.Proofs.Ytbianedgogdeeaa
open Go.RowKit Go.Maps Fold Go.Lib
attribute [local go_sem] Oper.semAt_some strGeq strGtr
set_option linter.unusedVariables false
set_option linter.unusedSimpArgs false

set_option maxRecDepth 100000 in
theorem below_pr (p q : PR) (w : World) : Calls Try.prog 43 #[.agg #[.string p.1, .int .u32 (p.2 : Nat)], .agg #[.string q.1, .int .u32 (q.2 : Nat)]] w fun e w' => e = .returned (.bool (decide (ltP p q))) ∧ Below w.heap.size w w' := by
  obtain ⟨pk, pv⟩ := p
  obtain ⟨qk, qv⟩ := q
  dsimp only
  have hst := str_eq pk qk
  cases hl : Op.bytesLess pk.toList qk.toList with
  | true =>
    rw [decide_eq_true (show ltP (pk, pv) (qk, qv) from .inl hl)]
    clear hst
    go_enter Try.func43, Try.ntmps43
    go_wp2_with fail
    go_ret
    exact ⟨rfl, (by repeat (first | exact Below.refl _ _ | refine below_drewN ?_ _ | refine Below.drew ?_ | (refine Below.alloc ?_ (by simp; try omega) _)))⟩
  | false =>
    by_cases hk : pk = qk
    · rw [decide_eq_true hk] at hst
      by_cases hv : pv < qv
      · have d1 : decide ((pv : Int) < (qv : Int)) = true := by simp; omega
        rw [decide_eq_true (show ltP (pk, pv) (qk, qv) from .inr ⟨hk, hv⟩)]
        replace hv := decide_eq_true hv
        clear hk
        go_enter Try.func43, Try.ntmps43
        go_wp2_with fail
        go_ret
        exact ⟨rfl, (by repeat (first | exact Below.refl _ _ | refine below_drewN ?_ _ | refine Below.drew ?_ | (refine Below.alloc ?_ (by simp; try omega) _)))⟩
      · have d1 : decide ((pv : Int) < (qv : Int)) = false := by simp; omega
        rw [decide_eq_false (show ¬ ltP (pk, pv) (qk, qv) from by
          rintro (h | ⟨_, h⟩)
          · dsimp only at h; rw [hl] at h; cases h
          · exact hv h)]
        replace hv := decide_eq_false hv
        clear hk
        go_enter Try.func43, Try.ntmps43
        go_wp2_with fail
        go_ret
        exact ⟨rfl, (by repeat (first | exact Below.refl _ _ | refine below_drewN ?_ _ | refine Below.drew ?_ | (refine Below.alloc ?_ (by simp; try omega) _)))⟩
    · rw [decide_eq_false hk] at hst
      rw [decide_eq_false (show ¬ ltP (pk, pv) (qk, qv) from by
        rintro (h | ⟨h, _⟩)
        · dsimp only at h; rw [hl] at h; cases h
        · exact hk h)]
      clear hk
      go_enter Try.func43, Try.ntmps43
      go_wp2_with fail
      go_ret
      exact ⟨rfl, (by repeat (first | exact Below.refl _ _ | refine below_drewN ?_ _ | refine Below.drew ?_ | (refine Below.alloc ?_ (by simp; try omega) _)))⟩

/-- Merging two rows in their order. -/
abbrev mergeP (a b : PRS) : PRS := List.merge a b leP
theorem merge_sorted {a b : PRS} : mergeP (sortP a) (sortP b) = sortP (a ++ b) :=
  sortP_eq ((List.merge_perm_append _).trans ((sortP_perm a).append (sortP_perm b))) (List.pairwise_merge leP_trans leP_total _ _ (sortP_sorted a) (sortP_sorted b))
theorem merge_len (a b : PRS) : (mergeP a b).length = a.length + b.length := by
  rw [(List.merge_perm_append (xs := a) (ys := b) leP).length_eq, List.length_append]
theorem merge_left {p : PR} {X Y : PRS} (h : ∀ q R, Y = q :: R → ¬ ltP q p) : mergeP (p :: X) Y = p :: mergeP X Y := by
  cases Y with
  | nil => simp [mergeP]
  | cons q R =>
    have h1 : leP p q = true := by unfold leP; simpa using h q R rfl
    simp [mergeP, List.merge, h1]
theorem merge_right {q : PR} {X Y : PRS} (h : ∀ p R, X = p :: R → ltP q p) : mergeP X (q :: Y) = q :: mergeP X Y := by
  cases X with
  | nil => simp [mergeP]
  | cons p R =>
    have h1 : leP p q = false := by unfold leP; simpa using h p R rfl
    simp [mergeP, List.merge, h1]
theorem sortP_short {l : PRS} (h : l.length < 2) : sortP l = l := by
  refine (sortP_eq (.refl _) ?_).symm
  match l, h with
  | [], _ => exact List.Pairwise.nil
  | [p], _ => exact List.pairwise_singleton _ _

theorem own_split {w : World} {base : Nat} {v : Value} {X : PRS} (h : OwnR w base v X) : ∃ xa xc, v = .slice xa X.length xc ∧ PrA w.heap.size w xa xc X := h.pra
/-- Merging halves. -/
theorem half_merge (l : PRS) (h : Nat) : mergeP (sortP (l.take h)) (sortP (l.drop h)) = sortP l := by
  rw [merge_sorted, List.take_append_drop]

set_option maxRecDepth 100000 in
set_option maxHeartbeats 4000000 in
theorem rorder_any : ∀ (k : Nat) (l : PRS) (ao : Option Addr) (cap B : Nat) (w : World) (hk : l.length = k) (hB : B ≤ w.heap.size) (hx : PrA B w ao cap l) (hz : l.length ≤ 6000000000000),
    Calls Try.prog 19 #[.slice ao l.length cap] w fun e w' => ∃ v', e = .returned v' ∧ OwnR w' w.heap.size v' (sortP l) ∧ Below w.heap.size w w' := by
  intro k
  induction k using Nat.strongRecOn with
  | ind k ih =>
  intro l ao cap B w hk hB hx hz
  obtain ⟨iR, hiR, hR0, hR1, hR2⟩ := partsR
  have hlen := hx.len
  obtain ⟨n, hn⟩ : ∃ n, n = l.length := ⟨_, rfl⟩
  rw [← hn] at hlen hz ⊢
  obtain rfl : n = k := hn.trans hk
  by_cases h2 : n < 2
  · have d0 : decide ((n : Int) < 2) = true := by simp; omega
    rw [sortP_short (by omega)]
    replace hn := Lib.hid hn
    clear ih hk
    go_enter Try.func19, Try.ntmps19
    go_wp2_with (at_builtin; refine Shut.out ?ka)
    unfold Shut
    have hii2 : PrA w.heap.size (w.alloc (.cells #[] 53)) ao cap l := (hx.imp' ((belowAlloc w _).mono hB) (Nat.le_refl _)).imp (Below.refl _ _) hB (fun _ _ _ h => h)
    refine wpList_app_sla (xs := []) (ys := l) (enc := encR) (base := w.heap.size) _ rfl _ _ 29 rfl Try.underlying29 hiR hR0 hR1 hR2 rfl (by decide) rfl (ownEmpty w 2 53) (by show Value.slice ao n cap = _; rw [hn.out]) hii2 encR_len encR_one (by have := hn.out; unfold maxLen; simp; omega) (by have := hn.out; simp; omega) (by simp) (fun v3 w3 hown3 hgr3 => ?_)
    rw [List.nil_append] at hown3
    have hb23 : Below w.heap.size w w3 := (belowAlloc w (.cells #[] 53)).grown hgr3 (by simp) (fun g hg => by simp [Act.eval, Value.ownBlock] at hg; omega)
    clear hii2 hgr3
    go_wp2_with fail
    go_ret
    exact ⟨_, rfl, hown3, hb23⟩
  · have d0 : decide ((n : Int) < 2) = false := by simp; omega
    obtain ⟨h, hh⟩ : ∃ h, h = n / 2 := ⟨_, rfl⟩
    have hh1 : 0 < h := by omega
    have hhn : h < n := by omega
    have hq : Int.tdiv (n : Int) 2 = (h : Int) := by rw [hh]; rfl
    have hM := half_merge l h
    obtain ⟨b, off, rfl, hb, _⟩ := hx.addr (by omega)
    have hcap := hx.1
    have hlt : (l.take h).length = h := by rw [List.length_take, ← hn]; omega
    have hld : (l.drop h).length = n - h := by rw [List.length_drop, ← hn]
    have hA := ih h hhn (l.take h) (some ⟨b, off, none⟩) cap B w hlt hB (sla_take hx h) (by omega)
    rw [hlt] at hA
    have hBb := fun (W : World) (hW : Below w.heap.size w W) =>
      ih (n - h) (by omega) (l.drop h) (some ⟨b, off + h * 2, none⟩) (cap - h) B W hld (Nat.le_trans hB hW.size) (PrA.imp' (sla_drop hx h (by omega) _ _ (.inl ⟨rfl, rfl⟩)) (hW.mono hB) (Nat.le_refl _)) (by omega)
    rw [hld] at hBb
    have hnc : n ≤ cap := by rw [hn]; exact hcap
    have hhc : h ≤ cap := by omega
    have hcn : ¬ cap = h := by omega
    have hhn2 : h ≤ n := by omega
    replace hA := Lib.hid hA
    replace hBb := Lib.hid hBb
    replace hn := Lib.hid hn
    replace hh := Lib.hid hh
    replace hM := Lib.hid hM
    clear ih hk hlt hld hcap h2
    go_enter Try.func19, Try.ntmps19
    go_wp2_with (go_at_call 19; refine Shut.out ?kb)
    unfold Shut
    refine hA.out.mono ?_
    rintro e w1 ⟨v1, rfl, hO1, hb1⟩
    have hB1 := hBb.out w1 hb1
    replace hB1 := Lib.hid hB1
    clear hA hBb
    dsimp only
    go_wp2_with (go_at_call 19; refine Shut.out ?kc)
    unfold Shut
    refine hB1.out.mono ?_
    rintro e w2 ⟨v2, rfl, hO2, hb2⟩
    have hO12 := OwnL.below hO1 hb2 (Nat.le_refl _)
    have hb12 := hb1.trans (hb2.mono hb1.size)
    obtain ⟨xa, xc, rfl, hX⟩ := OwnR.pra hO12
    obtain ⟨ya, yc, rfl, hY⟩ := OwnR.pra hO2
    obtain ⟨X, hXe⟩ : ∃ X, X = sortP (l.take h) := ⟨_, rfl⟩
    obtain ⟨Y, hYe⟩ : ∃ Y, Y = sortP (l.drop h) := ⟨_, rfl⟩
    have hXl : X.length + Y.length = n := by rw [hXe, hYe, (sortP_perm _).length_eq, (sortP_perm _).length_eq, hn.out, ← List.length_append, List.take_append_drop]
    have hM2 := hM.out
    rw [← hXe, ← hYe] at hM2
    rw [← hXe] at hX ⊢
    rw [← hYe] at hY ⊢
    replace hM2 := Lib.hid hM2
    replace hXl := Lib.hid hXl
    clear hXe hYe hM hO1 hO2 hO12 hb1 hb2 hB1 hx
    dsimp only
    go_wp2_with fail
    go_loopw [3, 4, 5] (fun x3 x4 x5 wr => ∃ (P Q O : PRS) (pa qa : Option Addr) (pc qc : Nat), x3 = .slice pa P.length pc ∧ x4 = .slice qa Q.length qc ∧ PrA w2.heap.size wr pa pc P ∧ PrA w2.heap.size wr qa qc Q ∧ OwnR wr w2.heap.size x5 O ∧ Below w2.heap.size w2 wr ∧ Hid (O ++ mergeP P Q = sortP l ∧ O.length + P.length + Q.length = n)) (fun x3 x4 _ _ => slen x3 + slen x4)
    case atStart => exact ⟨X, Y, [], xa, ya, xc, yc, rfl, rfl, hX, hY, OwnL.nil _ _ _ _ _, Below.refl _ _, Lib.hid ⟨by rw [List.nil_append]; exact hM2.out, by have := hXl.out; simp; omega⟩⟩
    case round =>
      clear hX hY hM2 hXl
      obtain ⟨P, Q, O, pa, qa, pc, qc, rfl, rfl, hP, hQ, hO, hbr, hI⟩ := hrel
      obtain ⟨np, hnp⟩ : ∃ np, np = P.length := ⟨_, rfl⟩
      obtain ⟨nq, hnq⟩ : ∃ nq, nq = Q.length := ⟨_, rfl⟩
      obtain ⟨oa, oc, rfl, -, -, -⟩ := hO.slice
      obtain ⟨no, hno⟩ : ∃ no, no = O.length := ⟨_, rfl⟩
      have hPc := hP.1
      have hQc := hQ.1
      rw [← hnp] at hPc
      rw [← hnq] at hQc
      have hnl := hI.out.2
      rw [← hnp, ← hnq, ← hno] at hnl
      have hb2r := hb12.trans (hbr.mono hb12.size)
      rw [← hno] at hO ⊢
      rw [← hnp, ← hnq]
      have hpn : P.length = np := hnp.symm
      have hqn : Q.length = nq := hnq.symm
      replace hno := Lib.hid hno
      replace hpn := Lib.hid hpn
      replace hqn := Lib.hid hqn
      clear hnp hnq
      by_cases hp0 : 0 < np
      · obtain ⟨pb, po, rfl, hpb, _⟩ := hP.addr (by have := hpn.out; omega)
        have hpb2 : pb < wr.heap.size := Nat.lt_of_lt_of_le hpb hbr.size
        obtain ⟨p, P', rfl⟩ : ∃ p P', P = p :: P' := by
          cases P with
          | nil => have := hpn.out; simp at this; omega
          | cons p P' => exact ⟨p, P', rfl⟩
        have e1 : decide ((0 : Int) < (np : Int)) = true := by simp; omega
        have e2 : ((np : Int) == 0) = false := by simp; omega
        obtain ⟨r0, r1⟩ := PrA.at hP (i := 0) (by simp)
        simp only [List.getElem_cons_zero, Nat.zero_mul, Nat.add_zero] at r0 r1
        have t0 := Wd.cell r0 (World.lt_of_cell r0)
        have t1 := Wd.cell r1 (World.lt_of_cell r1)
        by_cases hq0 : 0 < nq
        · obtain ⟨qb, qo, rfl, hqb, _⟩ := hQ.addr (by have := hqn.out; omega)
          have hqb2 : qb < wr.heap.size := Nat.lt_of_lt_of_le hqb hbr.size
          obtain ⟨q, Q', rfl⟩ : ∃ q Q', Q = q :: Q' := by
            cases Q with
            | nil => have := hqn.out; simp at this; omega
            | cons q Q' => exact ⟨q, Q', rfl⟩
          have e3 : decide ((0 : Int) < (nq : Int)) = true := by simp; omega
          have e4 : ((nq : Int) == 0) = false := by simp; omega
          obtain ⟨s0, s1⟩ := PrA.at hQ (i := 0) (by simp)
          simp only [List.getElem_cons_zero, Nat.zero_mul, Nat.add_zero] at s0 s1
          have v0 := Wd.cell s0 (World.lt_of_cell s0)
          have v1 := Wd.cell s1 (World.lt_of_cell s1)
          have hbl := fun W => below_pr q p W
          by_cases hlt : ltP q p
          · have hmg := merge_right (X := p :: P') (Y := Q') (q := q) (fun p2 R e => by
              simp only [List.cons.injEq] at e
              rw [← e.1]; exact hlt)
            rw [decide_eq_true hlt] at hbl
            replace hbl := Lib.hid hbl
            go_upto_region 7 with fail
            refine wp_region_below (by kernel_rfl) (by kernel_rfl) ?_
            repeat (go_big_quiet_step ((go_at_call 43; exact Calls.quiet_below (hbl.out _))))
            refine wpQuiet_nil ?_
            rintro _ ⟨u, rfl⟩
            clear t0 t1 r0 r1
            have hOu := OwnL.below hO u.h (Nat.le_refl _)
            have hbu := hbr.trans (u.h.mono hbr.size)
            have hPu := PrA.imp' hP (u.h.mono hbr.size) (Nat.le_refl _)
            have hQu := PrA.imp' hQ (u.h.mono hbr.size) (Nat.le_refl _)
            have a0 := v0 u
            have a1 := v1 u
            obtain ⟨wy, hwy⟩ : ∃ wy, wy = u.v := ⟨_, rfl⟩
            rw [← hwy] at hOu hbu hPu hQu a0 a1 ⊢
            have hpl : Q'.length = nq - 1 := by have := hqn.out; simp at this; omega
            replace hpl := Lib.hid hpl
            replace hmg := Lib.hid hmg
            have h1p : 1 ≤ nq := hq0
            have h1c : 1 ≤ qc := by omega
            clear hwy v0 v1 hO hbr hP hQ s0 s1 hb2r
            go_wp2_with (at_builtin; refine Shut.out ?km1)
            unfold Shut
            refine wpList_app1q rfl _ _ 29 rfl Try.underlying29 hiR hR0 hR1 hR2 rfl (enc := encR) q rfl hOu rfl (encR_len _) (encR_one _) (by rw [← hno.out]; omega) (by rw [← hno.out]; unfold maxLen; omega) hbu.size ?_
            intro g8 cap8 w8 hown8 hgr8
            have hg8 := hgr8.below hbu.size (fun g e => (hOu.lt g e).1)
            have hb8 := hbu.trans hg8
            have hP8 := PrA.imp' hPu hg8 (Nat.le_refl _)
            have hQ8 := PrA.imp' hQu hg8 (Nat.le_refl _)
            rw [← hno.out] at hown8 ⊢
            have hI8 : Hid ((O ++ [q]) ++ mergeP (p :: P') Q' = sortP l ∧ (O ++ [q]).length + ((p :: P') : PRS).length + Q'.length = n) := Lib.hid ⟨by rw [List.append_assoc, List.singleton_append, ← hmg.out]; exact hI.out.1, by have := hI.out.2; simp at this ⊢; omega⟩
            have hol : (O ++ [q]).length = no + 1 := by have := hno.out; simp; omega
            replace hol := Lib.hid hol
            clear hOu hbu hPu hQu a0 a1 hgr8 hg8 hI
            by_cases hc1 : qc = 1
            · have hd8 := sla_drop hQ8 1 (by simp) (some ⟨qb, qo, none⟩) 0 (.inr ⟨hc1, rfl⟩)
              subst hc1
              have hn1 : nq = 1 := by omega
              subst hn1
              go_wp2_with fail
              go_roundw
              case rel => exact ⟨(p :: P'), Q', O ++ [q], _, _, _, _, by rw [hpn.out], by rw [hpl.out], hP8, hd8, hown8, hb8, hI8⟩
              case measure => simp [slen]
            · have hd8 := sla_drop hQ8 1 (by simp) (some ⟨qb, qo + 2, none⟩) (qc - 1) (.inl ⟨rfl, rfl⟩)
              go_wp2_with fail
              go_roundw
              case rel => exact ⟨(p :: P'), Q', O ++ [q], _, _, _, _, by rw [hpn.out], by rw [hpl.out], hP8, hd8, hown8, hb8, hI8⟩
              case measure => simp [slen]; omega
          · have hmg := merge_left (X := P') (Y := q :: Q') (p := p) (fun q2 R e => by
              simp only [List.cons.injEq] at e
              rw [← e.1]; exact hlt)
            rw [decide_eq_false hlt] at hbl
            replace hbl := Lib.hid hbl
            go_upto_region 7 with fail
            refine wp_region_below (by kernel_rfl) (by kernel_rfl) ?_
            repeat (go_big_quiet_step ((go_at_call 43; exact Calls.quiet_below (hbl.out _))))
            refine wpQuiet_nil ?_
            rintro _ ⟨u, rfl⟩
            clear v0 v1 s0 s1
            have hOu := OwnL.below hO u.h (Nat.le_refl _)
            have hbu := hbr.trans (u.h.mono hbr.size)
            have hPu := PrA.imp' hP (u.h.mono hbr.size) (Nat.le_refl _)
            have hQu := PrA.imp' hQ (u.h.mono hbr.size) (Nat.le_refl _)
            have a0 := t0 u
            have a1 := t1 u
            obtain ⟨wy, hwy⟩ : ∃ wy, wy = u.v := ⟨_, rfl⟩
            rw [← hwy] at hOu hbu hPu hQu a0 a1 ⊢
            have hpl : P'.length = np - 1 := by have := hpn.out; simp at this; omega
            replace hpl := Lib.hid hpl
            replace hmg := Lib.hid hmg
            have h1p : 1 ≤ np := hp0
            have h1c : 1 ≤ pc := by omega
            clear hwy t0 t1 hO hbr hP hQ r0 r1 hb2r
            go_wp2_with (at_builtin; refine Shut.out ?km2)
            unfold Shut
            refine wpList_app1q rfl _ _ 29 rfl Try.underlying29 hiR hR0 hR1 hR2 rfl (enc := encR) p rfl hOu rfl (encR_len _) (encR_one _) (by rw [← hno.out]; omega) (by rw [← hno.out]; unfold maxLen; omega) hbu.size ?_
            intro g8 cap8 w8 hown8 hgr8
            have hg8 := hgr8.below hbu.size (fun g e => (hOu.lt g e).1)
            have hb8 := hbu.trans hg8
            have hP8 := PrA.imp' hPu hg8 (Nat.le_refl _)
            have hQ8 := PrA.imp' hQu hg8 (Nat.le_refl _)
            rw [← hno.out] at hown8 ⊢
            have hI8 : Hid ((O ++ [p]) ++ mergeP P' (q :: Q') = sortP l ∧ (O ++ [p]).length + P'.length + ((q :: Q') : PRS).length = n) := Lib.hid ⟨by rw [List.append_assoc, List.singleton_append, ← hmg.out]; exact hI.out.1, by have := hI.out.2; simp at this ⊢; omega⟩
            have hol : (O ++ [p]).length = no + 1 := by have := hno.out; simp; omega
            replace hol := Lib.hid hol
            clear hOu hbu hPu hQu a0 a1 hgr8 hg8 hI
            by_cases hc1 : pc = 1
            · have hd8 := sla_drop hP8 1 (by simp) (some ⟨pb, po, none⟩) 0 (.inr ⟨hc1, rfl⟩)
              subst hc1
              have hn1 : np = 1 := by omega
              subst hn1
              go_wp2_with fail
              go_roundw
              case rel => exact ⟨P', (q :: Q'), O ++ [p], _, _, _, _, by rw [hpl.out], by rw [hqn.out], hd8, hQ8, hown8, hb8, hI8⟩
              case measure => simp [slen]
            · have hd8 := sla_drop hP8 1 (by simp) (some ⟨pb, po + 2, none⟩) (pc - 1) (.inl ⟨rfl, rfl⟩)
              go_wp2_with fail
              go_roundw
              case rel => exact ⟨P', (q :: Q'), O ++ [p], _, _, _, _, by rw [hpl.out], by rw [hqn.out], hd8, hQ8, hown8, hb8, hI8⟩
              case measure => simp [slen]; omega
        · have e3 : decide ((0 : Int) < (nq : Int)) = false := by simp; omega
          have e4 : ((nq : Int) == 0) = true := by simp; omega
          obtain rfl : Q = [] := List.eq_nil_of_length_eq_zero (by have := hqn.out; omega)
          have hmg := merge_left (X := P') (Y := []) (p := p) (fun q2 R e => by cases e)
          go_upto_region 7 with fail
          refine wp_region_below (by kernel_rfl) (by kernel_rfl) ?_
          repeat (go_big_quiet_step (fail))
          refine wpQuiet_nil ?_
          rintro _ ⟨u, rfl⟩
          have hOu := OwnL.below hO u.h (Nat.le_refl _)
          have hbu := hbr.trans (u.h.mono hbr.size)
          have hPu := PrA.imp' hP (u.h.mono hbr.size) (Nat.le_refl _)
          have hQu := PrA.imp' hQ (u.h.mono hbr.size) (Nat.le_refl _)
          have a0 := t0 u
          have a1 := t1 u
          obtain ⟨wy, hwy⟩ : ∃ wy, wy = u.v := ⟨_, rfl⟩
          rw [← hwy] at hOu hbu hPu hQu a0 a1 ⊢
          have hpl : P'.length = np - 1 := by have := hpn.out; simp at this; omega
          replace hpl := Lib.hid hpl
          replace hmg := Lib.hid hmg
          have h1p : 1 ≤ np := hp0
          have h1c : 1 ≤ pc := by omega
          clear hwy t0 t1 hO hbr hP hQ r0 r1 hb2r
          go_wp2_with (at_builtin; refine Shut.out ?km3)
          unfold Shut
          refine wpList_app1q rfl _ _ 29 rfl Try.underlying29 hiR hR0 hR1 hR2 rfl (enc := encR) p rfl hOu rfl (encR_len _) (encR_one _) (by rw [← hno.out]; omega) (by rw [← hno.out]; unfold maxLen; omega) hbu.size ?_
          intro g8 cap8 w8 hown8 hgr8
          have hg8 := hgr8.below hbu.size (fun g e => (hOu.lt g e).1)
          have hb8 := hbu.trans hg8
          have hP8 := PrA.imp' hPu hg8 (Nat.le_refl _)
          have hQ8 := PrA.imp' hQu hg8 (Nat.le_refl _)
          rw [← hno.out] at hown8 ⊢
          have hI8 : Hid ((O ++ [p]) ++ mergeP P' [] = sortP l ∧ (O ++ [p]).length + P'.length + ([] : PRS).length = n) := Lib.hid ⟨by rw [List.append_assoc, List.singleton_append, ← hmg.out]; exact hI.out.1, by have := hI.out.2; simp at this ⊢; omega⟩
          have hol : (O ++ [p]).length = no + 1 := by have := hno.out; simp; omega
          replace hol := Lib.hid hol
          clear hOu hbu hPu hQu a0 a1 hgr8 hg8 hI
          by_cases hc1 : pc = 1
          · have hd8 := sla_drop hP8 1 (by simp) (some ⟨pb, po, none⟩) 0 (.inr ⟨hc1, rfl⟩)
            subst hc1
            have hn1 : np = 1 := by omega
            subst hn1
            go_wp2_with fail
            go_roundw
            case rel => exact ⟨P', [], O ++ [p], _, _, _, _, by rw [hpl.out], by rw [hqn.out], hd8, hQ8, hown8, hb8, hI8⟩
            case measure => simp [slen]
          · have hd8 := sla_drop hP8 1 (by simp) (some ⟨pb, po + 2, none⟩) (pc - 1) (.inl ⟨rfl, rfl⟩)
            go_wp2_with fail
            go_roundw
            case rel => exact ⟨P', [], O ++ [p], _, _, _, _, by rw [hpl.out], by rw [hqn.out], hd8, hQ8, hown8, hb8, hI8⟩
            case measure => simp [slen]; omega
      · have e1 : decide ((0 : Int) < (np : Int)) = false := by simp; omega
        have e2 : ((np : Int) == 0) = true := by simp; omega
        obtain rfl : P = [] := List.eq_nil_of_length_eq_zero (by have := hpn.out; omega)
        by_cases hq0 : 0 < nq
        · obtain ⟨qb, qo, rfl, hqb, _⟩ := hQ.addr (by have := hqn.out; omega)
          have hqb2 : qb < wr.heap.size := Nat.lt_of_lt_of_le hqb hbr.size
          obtain ⟨q, Q', rfl⟩ : ∃ q Q', Q = q :: Q' := by
            cases Q with
            | nil => have := hqn.out; simp at this; omega
            | cons q Q' => exact ⟨q, Q', rfl⟩
          have e3 : decide ((0 : Int) < (nq : Int)) = true := by simp; omega
          have e4 : ((nq : Int) == 0) = false := by simp; omega
          obtain ⟨s0, s1⟩ := PrA.at hQ (i := 0) (by simp)
          simp only [List.getElem_cons_zero, Nat.zero_mul, Nat.add_zero] at s0 s1
          have v0 := Wd.cell s0 (World.lt_of_cell s0)
          have v1 := Wd.cell s1 (World.lt_of_cell s1)
          have hmg := merge_right (X := []) (Y := Q') (q := q) (fun p2 R e => by cases e)
          go_upto_region 7 with fail
          refine wp_region_below (by kernel_rfl) (by kernel_rfl) ?_
          repeat (go_big_quiet_step (fail))
          refine wpQuiet_nil ?_
          rintro _ ⟨u, rfl⟩
          have hOu := OwnL.below hO u.h (Nat.le_refl _)
          have hbu := hbr.trans (u.h.mono hbr.size)
          have hPu := PrA.imp' hP (u.h.mono hbr.size) (Nat.le_refl _)
          have hQu := PrA.imp' hQ (u.h.mono hbr.size) (Nat.le_refl _)
          have a0 := v0 u
          have a1 := v1 u
          obtain ⟨wy, hwy⟩ : ∃ wy, wy = u.v := ⟨_, rfl⟩
          rw [← hwy] at hOu hbu hPu hQu a0 a1 ⊢
          have hpl : Q'.length = nq - 1 := by have := hqn.out; simp at this; omega
          replace hpl := Lib.hid hpl
          replace hmg := Lib.hid hmg
          have h1p : 1 ≤ nq := hq0
          have h1c : 1 ≤ qc := by omega
          clear hwy v0 v1 hO hbr hP hQ s0 s1 hb2r
          go_wp2_with (at_builtin; refine Shut.out ?km4)
          unfold Shut
          refine wpList_app1q rfl _ _ 29 rfl Try.underlying29 hiR hR0 hR1 hR2 rfl (enc := encR) q rfl hOu rfl (encR_len _) (encR_one _) (by rw [← hno.out]; omega) (by rw [← hno.out]; unfold maxLen; omega) hbu.size ?_
          intro g8 cap8 w8 hown8 hgr8
          have hg8 := hgr8.below hbu.size (fun g e => (hOu.lt g e).1)
          have hb8 := hbu.trans hg8
          have hP8 := PrA.imp' hPu hg8 (Nat.le_refl _)
          have hQ8 := PrA.imp' hQu hg8 (Nat.le_refl _)
          rw [← hno.out] at hown8 ⊢
          have hI8 : Hid ((O ++ [q]) ++ mergeP [] Q' = sortP l ∧ (O ++ [q]).length + ([] : PRS).length + Q'.length = n) := Lib.hid ⟨by rw [List.append_assoc, List.singleton_append, ← hmg.out]; exact hI.out.1, by have := hI.out.2; simp at this ⊢; omega⟩
          have hol : (O ++ [q]).length = no + 1 := by have := hno.out; simp; omega
          replace hol := Lib.hid hol
          clear hOu hbu hPu hQu a0 a1 hgr8 hg8 hI
          by_cases hc1 : qc = 1
          · have hd8 := sla_drop hQ8 1 (by simp) (some ⟨qb, qo, none⟩) 0 (.inr ⟨hc1, rfl⟩)
            subst hc1
            have hn1 : nq = 1 := by omega
            subst hn1
            go_wp2_with fail
            go_roundw
            case rel => exact ⟨[], Q', O ++ [q], _, _, _, _, by rw [hpn.out], by rw [hpl.out], hP8, hd8, hown8, hb8, hI8⟩
            case measure => simp [slen]
          · have hd8 := sla_drop hQ8 1 (by simp) (some ⟨qb, qo + 2, none⟩) (qc - 1) (.inl ⟨rfl, rfl⟩)
            go_wp2_with fail
            go_roundw
            case rel => exact ⟨[], Q', O ++ [q], _, _, _, _, by rw [hpn.out], by rw [hpl.out], hP8, hd8, hown8, hb8, hI8⟩
            case measure => simp [slen]; omega
        · have e3 : decide ((0 : Int) < (nq : Int)) = false := by simp; omega
          obtain rfl : Q = [] := List.eq_nil_of_length_eq_zero (by have := hqn.out; omega)
          have hres := hI.out.1
          rw [show mergeP [] [] = [] by simp [mergeP], List.append_nil] at hres
          rw [hres] at hO
          clear hres hI
          go_wp2_with fail
          go_ret
          exact ⟨_, rfl, OwnL.base_le hO hb12.size, hb2r⟩
end Go.Proofs.Ytbianedgogdeeaa
