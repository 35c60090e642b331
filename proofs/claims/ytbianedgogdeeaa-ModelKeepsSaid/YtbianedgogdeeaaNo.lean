/- Model: the document's Group: of pairs in their order one for each key. -/
import Derived.Test.YtbianedgogdeeaaNl
import Derived.Test.YtbianedgogdeeaaMw
import Derived.Test.YtbianedgogdeeaaL13
namespace Go.Proofs.Ytbianedgogdeeaa
open Go.RowKit Go.Maps Fold Go.Lib
attribute [local go_sem] Oper.semAt_some
set_option linter.unusedVariables false
set_option linter.unusedSimpArgs false

theorem valsK_snoc (T : PRS) (p : PR) (k : ByteArray) : valsK (T ++ [p]) k = if p.1 = k then valsK T k ++ [p.2] else valsK T k := by
  rw [valsK_append, valsK_cons]
  by_cases e : p.1 = k
  · rw [if_pos e, if_pos e]; rfl
  · rw [if_neg e, if_neg e]
    exact List.append_nil _
/-- What Group has made of the pairs so far. -/
structure GrpS (w : Int) (T G : PRS) : Prop where
  srt : Srt G
  get : ∀ k, getL G k = allO w (valsK T k)
  last : ∀ p, T.getLast? = some p → ∃ H v, G = H ++ [(p.1, v)]
  ok : okL G
  len : G.length ≤ T.length
theorem GrpS.nil (w : Int) : GrpS w [] [] := ⟨List.Pairwise.nil, fun k => rfl, fun p h => by simp at h, fun p h => by simp at h, Nat.le_refl _⟩
theorem srt_ne {H : PRS} {q : PR} (h : Srt (H ++ [q])) : ∀ x ∈ H, x.1 ≠ q.1 := fun x hx => less_ne ((List.pairwise_append.1 h).2.2 x hx q (by simp))
theorem GrpS.same {w : Int} {T H : PRS} {k : ByteArray} {v : Nat} {p : PR} (hw : ¬ (w < 0 ∨ 6 < w)) (h : GrpS w T (H ++ [(k, v)])) (hk : k = p.1) (hp : okR p) : GrpS w (T ++ [p]) (H ++ [(k, joinN w v (startN w p.2))]) := by
  have hne : ∀ x ∈ H, x.1 ≠ k := srt_ne h.srt
  have hv : allO w (valsK T k) = some v := by rw [← h.get, getL_snoc hne, if_pos rfl]
  have hokv := h.ok (k, v) (by simp)
  refine ⟨?_, fun k2 => ?_, fun q hq => ?_, fun x hx => ?_, ?_⟩
  · have h1 := h.srt
    unfold Srt at h1 ⊢
    rw [List.pairwise_append] at h1 ⊢
    refine ⟨h1.1, List.pairwise_singleton _ _, fun a ha b hb => ?_⟩
    rw [List.mem_singleton.1 hb]
    exact h1.2.2 a ha (k, v) (by simp)
  · rw [getL_snoc hne, valsK_snoc]
    by_cases e : k = k2
    · subst e
      rw [if_pos rfl, if_pos hk.symm, allO_snoc, hv]
      rfl
    · have e2 : ¬ p.1 = k2 := fun e2 => e (hk.trans e2)
      have h1 := h.get k2
      rw [getL_snoc hne, if_neg e] at h1
      rw [if_neg e, if_neg e2]
      exact h1
  · simp at hq
    subst hq
    exact ⟨H, _, by rw [hk]⟩
  · rcases List.mem_append.1 hx with hx | hx
    · exact h.ok x (List.mem_append_left _ hx)
    · rw [List.mem_singleton.1 hx]
      exact ⟨hokv.1, joinN_lt w v _ hokv.2 (startN_lt w _ hp.2)⟩
  · have := h.len
    simp at this ⊢
    omega
theorem GrpS.more {w : Int} {T G : PRS} {p : PR} (hw : ¬ (w < 0 ∨ 6 < w)) (h : GrpS w T G) (hs : (T ++ [p]).Pairwise (fun p q => leP p q = true)) (hne : ∀ H k v, G = H ++ [(k, v)] → k ≠ p.1) (hp : okR p) : GrpS w (T ++ [p]) (G ++ [(p.1, startN w p.2)]) := by
  have hlt : ∀ x ∈ G, Op.bytesLess x.1.toList p.1.toList = true := by
    intro x hx
    rcases List.eq_nil_or_concat T with e | ⟨T', t, e⟩
    · have := h.len
      rw [e] at this
      simp at this
      rw [this] at hx
      simp at hx
    · obtain ⟨H, v, hG⟩ := h.last t (by rw [e]; simp)
      have h1 : leP t p = true := (List.pairwise_append.1 hs).2.2 t (by rw [e]; simp) p (by simp)
      have h2 := hne H t.1 v hG
      have h3 : Op.bytesLess t.1.toList p.1.toList = true := by
        cases hb : Op.bytesLess t.1.toList p.1.toList with
        | true => rfl
        | false =>
          have h4 := less_total _ _ hb (fun e2 => h2 (toList_inj.1 e2))
          unfold leP at h1
          have h5 : ltP p t := .inl h4
          simp [h5] at h1
      have h6 := h.srt
      rw [hG] at h6 hx
      rcases List.mem_append.1 hx with hx | hx
      · exact less_trans _ _ _ ((List.pairwise_append.1 h6).2.2 x hx (t.1, v) (by simp)) h3
      · rw [List.mem_singleton.1 hx]
        exact h3
  have hno : ∀ q ∈ G, q.1 ≠ p.1 := fun q hq => less_ne (hlt q hq)
  have hv0 : valsK T p.1 = [] := by
    have h1 := h.get p.1
    rw [getL_none.2 hno] at h1
    have h2 := allO_isSome w (valsK T p.1)
    rw [← h1] at h2
    simpa using h2
  refine ⟨?_, fun k2 => ?_, fun q hq => ?_, fun x hx => ?_, ?_⟩
  · have h1 := h.srt
    unfold Srt at h1 ⊢
    rw [List.pairwise_append]
    refine ⟨h1, List.pairwise_singleton _ _, fun a ha b hb => ?_⟩
    rw [List.mem_singleton.1 hb]
    exact hlt a ha
  · rw [getL_snoc (p := (p.1, startN w p.2)) hno, valsK_snoc]
    dsimp only
    by_cases e : p.1 = k2
    · subst e
      rw [if_pos rfl, if_pos rfl, hv0, List.nil_append]
      rfl
    · rw [if_neg e, if_neg e]
      exact h.get k2
  · simp at hq
    subst hq
    exact ⟨G, _, rfl⟩
  · rcases List.mem_append.1 hx with hx | hx
    · exact h.ok x hx
    · rw [List.mem_singleton.1 hx]
      exact ⟨hp.1, startN_lt w _ hp.2⟩
  · have := h.len
    simp
    omega
theorem GrpS.done {w : Int} {l G : PRS} (h : GrpS w (sortP l) G) : G = foldKeep w l [] :=
  srt_ext h.srt (foldKeep_srt List.Pairwise.nil) (fun k => by
    rw [h.get, getL_foldKeep2, allO_perm w (valsK_perm (sortP_perm l) k)]
    rfl)
theorem snoc_or (G : PRS) : G = [] ∨ ∃ H k v, G = H ++ [(k, v)] := by
  rcases List.eq_nil_or_concat G with e | ⟨H, q, e⟩
  · exact .inl e
  · exact .inr ⟨H, q.1, q.2, by rw [e]; simp⟩
end Go.Proofs.Ytbianedgogdeeaa

/- Model: the document's find and Group. -/
namespace Go.Proofs.Ytbianedgogdeeaa
open Go.RowKit Go.Maps Fold Go.Lib
attribute [local go_sem] Oper.semAt_some
set_option linter.unusedVariables false
set_option linter.unusedSimpArgs false

theorem getL_cons1 (p : PR) (r : PRS) (k : ByteArray) : getL (p :: r) k = if p.1 = k then some p.2 else getL r k := by
  unfold getL
  rw [List.find?_cons]
  by_cases h : p.1 = k <;> simp [h]

set_option maxRecDepth 100000 in
set_option maxHeartbeats 2000000 in
theorem rfind_any (l : PRS) (k : ByteArray) (ao : Option Addr) (cap B : Nat) (w : World) (hx : PrA B w ao cap l) :
    Calls Try.prog 55 #[.slice ao l.length cap, .string k] w fun e w' => e = .returned (.tuple #[.int .u32 (((getL l k).getD 0 : Nat)), .bool (getL l k).isSome]) ∧ w' = w := by
  have hl := hx.len
  obtain ⟨n, hn⟩ : ∃ n, n = l.length := ⟨_, rfl⟩
  rw [← hn] at hl ⊢
  obtain ⟨r, hr⟩ : ∃ r, r = getL l k := ⟨_, rfl⟩
  rw [← hr]
  replace hn := Lib.hid hn
  replace hr := Lib.hid hr
  go_enter Try.func55, Try.ntmps55
  go_wp2_with fail
  go_loopw [6] (fun x6 wr => ∃ i : Nat, i ≤ n ∧ x6 = .int .i64 i ∧ wr = w ∧ Hid (getL (l.drop i) k = r)) (fun x6 _ => n - (intOf x6).toNat)
  case atStart => exact ⟨0, Nat.zero_le _, rfl, rfl, Lib.hid hr.out.symm⟩
  case round =>
    obtain ⟨i, hi, rfl, rfl, hpre⟩ := hrel
    by_cases hin : i < n
    · have d1 : decide ((i : Int) < (n : Int)) = true := by simp; omega
      have hil : i < l.length := by rw [← hn.out]; exact hin
      obtain ⟨b, off, rfl, hb, _⟩ := hx.addr (by omega)
      obtain ⟨p0, p1⟩ := PrA.at hx hil
      have hstep : getL (l.drop i) k = if l[i].1 = k then some l[i].2 else getL (l.drop (i + 1)) k := by rw [List.drop_eq_getElem_cons hil, getL_cons1]
      obtain ⟨pk, hpk⟩ : ∃ pk, pk = l[i].1 := ⟨_, rfl⟩
      obtain ⟨pv, hpv⟩ : ∃ pv, pv = l[i].2 := ⟨_, rfl⟩
      rw [← hpk] at p0 hstep
      rw [← hpv] at p1 hstep
      have hst := str_eq pk k
      replace hpk := Lib.hid hpk
      replace hpv := Lib.hid hpv
      clear hx
      by_cases he : pk = k
      · rw [if_pos he] at hstep
        rw [decide_eq_true he] at hst
        have hre : r = some pv := by rw [← hpre.out, hstep]
        subst hre
        clear hpre hstep he
        go_wp2_with fail
        go_ret2
        exact ⟨rfl, rfl⟩
      · rw [decide_eq_false he] at hst
        have hpre' : Hid (getL (l.drop (i + 1)) k = r) := Lib.hid (by rw [← hpre.out, hstep, if_neg he])
        clear hpre hstep he
        go_wp2_with fail
        go_roundw
        case rel => exact ⟨i + 1, by omega, by go_num, by first | rfl | trivial, hpre'⟩
        case measure => simp [intOf]; omega
    · have d1 : decide ((i : Int) < (n : Int)) = false := by simp; omega
      have hre : r = none := by
        rw [← hpre.out, List.drop_of_length_le (by have := hn.out; omega)]
        rfl
      subst hre
      clear hpre
      go_wp2_with fail
      go_ret2
      exact ⟨rfl, rfl⟩

set_option maxRecDepth 100000 in
set_option maxHeartbeats 4000000 in
theorem rgroup_any (wh : Int) (l : PRS) (ao : Option Addr) (cap B : Nat) (w : World) (hB : B ≤ w.heap.size) (hw : ¬ (wh < 0 ∨ 6 < wh)) (hx : PrA B w ao cap l) (hok : okL l) (hz : l.length ≤ 1000000) :
    Calls Try.prog 54 #[.int .i64 wh, .slice ao l.length cap] w fun e w' => ∃ v', e = .returned v' ∧ OwnR w' w.heap.size v' (foldKeep wh l []) ∧ Below w.heap.size w w' := by
  obtain ⟨iR, hiR, hR0, hR1, hR2⟩ := partsR
  have hord := rorder_any _ l ao cap B w rfl hB hx (by omega)
  obtain ⟨n, hn⟩ : ∃ n, n = l.length := ⟨_, rfl⟩
  rw [← hn] at hz hord ⊢
  replace hord := Lib.hid hord
  replace hn := Lib.hid hn
  clear hx
  go_enter Try.func54, Try.ntmps54
  go_wp2_with (go_at_call 19; refine Shut.out ?ka)
  unfold Shut
  refine hord.out.mono ?_
  rintro e w1 ⟨v1, rfl, hO1, hb1⟩
  obtain ⟨sa, sc, rfl, hS⟩ := OwnR.pra hO1
  have hsl : (sortP l).length = n := by rw [(sortP_perm l).length_eq, hn.out]
  rw [hsl]
  have hsok : okL (sortP l) := fun p hp => hok p ((sortP_perm l).mem_iff.1 hp)
  have hss := sortP_sorted l
  have hdone := fun G => GrpS.done (w := wh) (l := l) (G := G)
  obtain ⟨S, hSe⟩ : ∃ S, S = sortP l := ⟨_, rfl⟩
  rw [← hSe] at hS hsl hsok hss hdone
  replace hdone := Lib.hid hdone
  replace hsl := Lib.hid hsl
  replace hsok := Lib.hid hsok
  replace hss := Lib.hid hss
  clear hO1 hord hSe
  dsimp only
  go_wp2_with fail
  go_loopw [5, 6] (fun x5 x6 wr => ∃ (i : Nat) (G : PRS), i ≤ n ∧ x6 = .int .i64 i ∧ OwnR wr w1.heap.size x5 G ∧ Below w1.heap.size w1 wr ∧ Hid (GrpS wh (S.take i) G)) (fun _ x6 _ => n - (intOf x6).toNat)
  case atStart => exact ⟨0, [], Nat.zero_le _, rfl, OwnL.nil _ _ _ _ _, Below.refl _ _, Lib.hid (by rw [List.take_zero]; exact GrpS.nil wh)⟩
  case round =>
    obtain ⟨i, G, hi, rfl, hG, hbr, hI⟩ := hrel
    by_cases hin : i < n
    · have d1 : decide ((i : Int) < (n : Int)) = true := by simp; omega
      have hil : i < S.length := by rw [hsl.out]; exact hin
      obtain ⟨sb, so, rfl, hsb, _⟩ := hS.addr (by omega)
      have hsbw : sb < wr.heap.size := Nat.lt_of_lt_of_le hsb hbr.size
      obtain ⟨p0, p1⟩ := PrA.at (PrA.imp' hS hbr (Nat.le_refl _)) hil
      obtain ⟨p, hp⟩ : ∃ p, p = S[i] := ⟨_, rfl⟩
      rw [← hp] at p0 p1
      have hpo : okR p := by rw [hp]; exact hsok.out _ (List.getElem_mem hil)
      have htk : S.take (i + 1) = S.take i ++ [p] := by rw [List.take_add_one, List.getElem?_eq_getElem hil, hp]; rfl
      have hsr : (S.take i ++ [p]).Pairwise (fun p q => leP p q = true) := by rw [← htk]; exact hss.out.sublist (List.take_sublist _ _)
      have hGl : G.length ≤ n := Nat.le_trans hI.out.len (by rw [List.length_take]; omega)
      have hst0 := fun W => rstart_any wh p.2 W
      replace hst0 := Lib.hid hst0
      replace hp := Lib.hid hp
      replace htk := Lib.hid htk
      replace hsr := Lib.hid hsr
      replace hpo := Lib.hid hpo
      rcases snoc_or G with rfl | ⟨H, k, v, rfl⟩
      · obtain ⟨ga, gc, rfl, -, -, -⟩ := hG.slice
        have hI2 : Hid (GrpS wh (S.take (i + 1)) ([] ++ [(p.1, startN wh p.2)])) := Lib.hid (by rw [htk.out]; exact hI.out.more hw hsr.out (fun H k v e => by simp at e) hpo.out)
        clear hI htk hsr
        simp only [List.length_nil]
        go_wp2_with (go_at_call 68; refine (hst0.out _).mono ?_; rintro e w' ⟨rfl, rfl⟩; dsimp only)
        have d2 : decide ((0 : Int) < 0) = false := by simp
        go_quiet (fail)
        generalize hw5 : wr.drewN _ = w5
        have hG5 : OwnR w5 w1.heap.size (.slice ga 0 gc) [] := by rw [← hw5]; exact hG
        have hb5 : Below w1.heap.size w1 w5 := by rw [← hw5]; exact below_drewN hbr _
        have q0 : w5.cell? ⟨sb, so + i * 2, none⟩ = some (.string p.1) := by rw [← hw5]; exact p0
        clear hw5 hG hbr p0 p1
        go_wp2_with (at_builtin; refine Shut.out ?kb)
        unfold Shut
        refine wpList_app1g rfl _ _ 29 rfl Try.underlying29 hiR hR0 hR1 hR2 rfl (by decide) (enc := encR) (p.1, startN wh p.2) rfl hG5 rfl (encR_len _) (encR_one _) (by simp) (by unfold maxLen; simp) hb5.size ?_
        intro g cap7 w7 hown7 hgr7
        have hb7 := hb5.trans (hgr7.below hb5.size (fun g e => (hG5.lt g e).1))
        simp only [List.length_nil, Nat.zero_add] at hown7 ⊢
        clear hgr7 hG5 hb5 q0
        go_wp2_with fail
        go_roundw
        case rel => exact ⟨i + 1, [] ++ [(p.1, startN wh p.2)], by omega, by go_num, hown7, hb7, hI2⟩
        case measure => simp [intOf]; omega
      · rcases hG.form with ⟨-, e⟩ | ⟨g, gc, cells, rfl, -, -, -, -, -, -, -⟩
        · simp at e
        obtain ⟨m, hm⟩ : ∃ m, m = H.length := ⟨_, rfl⟩
        have hlen : (H ++ [(k, v)]).length = m + 1 := by rw [hm]; simp
        have hget : (H ++ [(k, v)])[m]'(by omega) = (k, v) := by simp [hm]
        have hml : m < (H ++ [(k, v)]).length := by omega
        have hcl := own_cellX hG encR_len hml
        have c0 : wr.cell? ⟨g, m * 2, none⟩ = some (.string k) := by
          have := hcl.1 0 (by omega)
          rw [hget] at this
          simpa [encR] using this
        have c1 : wr.cell? ⟨g, m * 2 + 1, none⟩ = some (.int .u32 (v : Nat)) := by
          have := hcl.1 1 (by omega)
          rw [hget] at this
          simpa [encR] using this
        have cf := hcl.2 (m * 2 + 1)
        have hvo : okR (k, v) := hI.out.ok _ (by simp)
        have hjn := fun W => rjoin_any wh v (startN wh p.2) W hvo.2 (startN_lt wh _ hpo.out.2)
        have hset : ∀ x, OwnR (wr.setCell ⟨g, m * 2 + 1, none⟩ (.int .u32 (x : Nat))) w1.heap.size (.slice (some ⟨g, 0, none⟩) (m + 1) gc) (H ++ [(k, x)]) := fun x => by
          have h1 := own_setX hG encR_len hml (j := 1) (by omega) (x' := (k, x)) (c := .int .u32 (x : Nat)) (by rw [hget]; rfl)
          rw [hlen] at h1
          have h2 : (H ++ [(k, v)]).set m (k, x) = H ++ [(k, x)] := by rw [hm, List.set_append_right _ _ (Nat.le_refl _), Nat.sub_self]; rfl
          rwa [h2] at h1
        have hgb : w1.heap.size ≤ g := (hG.lt g rfl).1
        have hgw : g < wr.heap.size := (hG.lt g rfl).2
        have hne : sb ≠ g := by omega
        have hst := str_eq k p.1
        have d2 : decide ((0 : Int) < (m : Int) + 1) = true := decide_eq_true (by omega)
        have hwr : wrap64 ((m : Int) + 1 - 1) = (m : Int) := by rw [Int.add_sub_cancel]; exact IntWalk.wrap64_in _ ⟨by omega, by omega⟩
        rw [hlen] at hGl ⊢
        clear hget hcl hvo
        replace hjn := Lib.hid hjn
        replace hset := Lib.hid hset
        replace hm := Lib.hid hm
        by_cases he : k = p.1
        · have hI2 : Hid (GrpS wh (S.take (i + 1)) (H ++ [(k, joinN wh v (startN wh p.2))])) := Lib.hid (by rw [htk.out]; exact hI.out.same hw he hpo.out)
          rw [decide_eq_true he] at hst
          replace hlen := Lib.hid hlen
          clear hI htk hsr he hG hml
          go_wp2_with (go_at_call 68; refine (hst0.out _).mono ?_; rintro e w' ⟨rfl, rfl⟩; dsimp only)
          go_quiet (fail)
          generalize hw5 : wr.drewN _ = w5
          have hset5 : ∀ x, OwnR (w5.setCell ⟨g, m * 2 + 1, none⟩ (.int .u32 (x : Nat))) w1.heap.size (.slice (some ⟨g, 0, none⟩) (m + 1) gc) (H ++ [(k, x)]) := fun x => by rw [← hw5]; exact hset.out x
          have hb5 : Below w1.heap.size w1 w5 := by rw [← hw5]; exact below_drewN hbr _
          have c15 : w5.cell? ⟨g, m * 2 + 1, none⟩ = some (.int .u32 (v : Nat)) := by rw [← hw5]; exact c1
          have cf5 : w5.frozen? ⟨g, m * 2 + 1, none⟩ = false := by rw [← hw5]; exact cf
          replace hset5 := Lib.hid hset5
          clear hw5 c0 c1 cf p0 p1 hset hbr
          go_wp2_with (go_at_call 56; refine (hjn.out _).mono ?_; rintro e w' ⟨rfl, rfl⟩; dsimp only)
          go_roundw
          case rel => exact ⟨i + 1, H ++ [(k, joinN wh v (startN wh p.2))], by omega, by go_num, hset5.out _, hb5.setCell hgb _, hI2⟩
          case measure => simp [intOf]; omega
        · have hne2 : ∀ (H2 : PRS) (k2 : ByteArray) (v2 : Nat), H ++ [(k, v)] = H2 ++ [(k2, v2)] → k2 ≠ p.1 := fun H2 k2 v2 e => by
            have e2 := List.append_inj_right' e rfl
            simp only [List.cons.injEq, Prod.mk.injEq, and_true] at e2
            rw [← e2.1]
            exact he
          have hI2 : Hid (GrpS wh (S.take (i + 1)) ((H ++ [(k, v)]) ++ [(p.1, startN wh p.2)])) := Lib.hid (by rw [htk.out]; exact hI.out.more hw hsr.out hne2 hpo.out)
          rw [decide_eq_false he] at hst
          rw [hlen] at hG
          replace hlen := Lib.hid hlen
          clear hI htk hsr he hset hjn hne2 hml
          go_wp2_with (go_at_call 68; refine (hst0.out _).mono ?_; rintro e w' ⟨rfl, rfl⟩; dsimp only)
          go_quiet (fail)
          generalize hw5 : wr.drewN _ = w5
          have hG5 : OwnR w5 w1.heap.size (.slice (some ⟨g, 0, none⟩) (m + 1) gc) (H ++ [(k, v)]) := by rw [← hw5]; exact hG
          have hb5 : Below w1.heap.size w1 w5 := by rw [← hw5]; exact below_drewN hbr _
          have q0 : w5.cell? ⟨sb, so + i * 2, none⟩ = some (.string p.1) := by rw [← hw5]; exact p0
          clear hw5 hG hbr p0 p1 c0 c1 cf
          go_wp2_with (at_builtin; refine Shut.out ?kc)
          unfold Shut
          refine wpList_app1g rfl _ _ 29 rfl Try.underlying29 hiR hR0 hR1 hR2 rfl (by decide) (enc := encR) (p.1, startN wh p.2) rfl hG5 rfl (encR_len _) (encR_one _) (by rw [hlen.out]; omega) (by rw [hlen.out]; unfold maxLen; omega) hb5.size ?_
          intro g7 cap7 w7 hown7 hgr7
          have hb7 := hb5.trans (hgr7.below hb5.size (fun g e => (hG5.lt g e).1))
          rw [hlen.out] at hown7 ⊢
          clear hgr7 hG5 hb5 q0
          go_wp2_with fail
          go_roundw
          case rel => exact ⟨i + 1, (H ++ [(k, v)]) ++ [(p.1, startN wh p.2)], by omega, by go_num, hown7, hb7, hI2⟩
          case measure => simp [intOf]; omega
    · have d1 : decide ((i : Int) < (n : Int)) = false := by simp; omega
      have hti : S.take i = S := List.take_of_length_le (by rw [hsl.out]; omega)
      have hI2 := hI.out
      rw [hti] at hI2
      rw [hdone.out G hI2] at hG
      clear hI hI2 hti
      go_wp2_with fail
      go_ret
      exact ⟨_, rfl, OwnL.base_le hG hb1.size, hb1.trans (hbr.mono hb1.size)⟩
end Go.Proofs.Ytbianedgogdeeaa

/- Model: the document's fold. -/
namespace Go.Proofs.Ytbianedgogdeeaa
open Go.RowKit Go.Maps Fold Go.Lib
attribute [local go_sem] Oper.semAt_some
set_option linter.unusedVariables false
set_option linter.unusedSimpArgs false

/-- A pair joined with what was kept of its key. -/
def updP (w : Int) (kept : PRS) (p : PR) : PR := (p.1, (optJ w (getL kept p.1) (some p.2)).getD 0)
def updI (w : Int) (kept N : PRS) (i : Nat) : PRS := (N.take i).map (updP w kept) ++ N.drop i
theorem updI_zero (w : Int) (kept N : PRS) : updI w kept N 0 = N := by simp [updI]
theorem updI_len (w : Int) (kept N : PRS) (i : Nat) : (updI w kept N i).length = N.length := by
  unfold updI
  rw [List.length_append, List.length_map, ← List.length_append, List.take_append_drop]
theorem updI_all (w : Int) (kept N : PRS) : updI w kept N N.length = N.map (updP w kept) := by simp [updI]
theorem updI_at {w : Int} {kept N : PRS} {i : Nat} (hi : i < N.length) : (updI w kept N i)[i]'(by rw [updI_len]; exact hi) = N[i] := by
  unfold updI
  rw [List.getElem_append_right (by simp; omega)]
  simp [Nat.min_eq_left (Nat.le_of_lt hi)]
theorem updI_step {w : Int} {kept N : PRS} {i : Nat} (hi : i < N.length) : updI w kept N (i + 1) = (updI w kept N i).set i (updP w kept N[i]) := by
  unfold updI
  have hl : ((N.take i).map (updP w kept)).length = i := by rw [List.length_map, List.length_take]; omega
  rw [List.set_append_right _ _ (by omega), hl, Nat.sub_self, List.drop_eq_getElem_cons hi, List.set_cons_zero, List.take_succ_eq_append_getElem hi, List.map_append, List.append_assoc]
  rfl
theorem updI_none {w : Int} {kept N : PRS} {i : Nat} (hi : i < N.length) (h : getL kept N[i].1 = none) : updI w kept N (i + 1) = updI w kept N i := by
  have hu : updP w kept N[i] = N[i] := by unfold updP; rw [h]; rfl
  have h2 := updI_step (w := w) (kept := kept) hi
  rw [hu] at h2
  rw [h2]
  have h3 := updI_at (w := w) (kept := kept) hi
  conv => lhs; rw [← h3]
  exact List.set_getElem_self _
theorem updP_keys (w : Int) (kept N : PRS) : (N.map (updP w kept)).map Prod.fst = N.map Prod.fst := by
  rw [List.map_map]
  rfl
theorem srt_keys {a b : PRS} (h : a.map Prod.fst = b.map Prod.fst) (hb : Srt b) : Srt a := by
  unfold Srt at *
  have h1 : (b.map Prod.fst).Pairwise (fun p q => Op.bytesLess p.toList q.toList = true) := by rw [List.pairwise_map]; exact hb
  rw [← h, List.pairwise_map] at h1
  exact h1
theorem getL_updP (w : Int) (kept : PRS) : ∀ (N : PRS) (k : ByteArray), getL (N.map (updP w kept)) k = (getL N k).map (fun v => (optJ w (getL kept k) (some v)).getD 0)
  | [], k => rfl
  | p :: r, k => by
    rw [List.map_cons, getL_cons1, getL_cons1, getL_updP w kept r k]
    by_cases e : p.1 = k
    · subst e
      rw [if_pos rfl, if_pos (show (updP w kept p).1 = p.1 from rfl)]
      rfl
    · rw [if_neg e, if_neg (show ¬ (updP w kept p).1 = k from e)]
theorem getL_perm {a b : PRS} (h : a.Perm b) (hn : (a.map Prod.fst).Nodup) (k : ByteArray) : getL a k = getL b k := by
  have hn2 : (b.map Prod.fst).Nodup := (h.map Prod.fst).nodup_iff.1 hn
  cases hb : getL b k with
  | none =>
    rw [getL_none] at hb ⊢
    exact fun p hp => hb p (h.mem_iff.1 hp)
  | some v => exact getL_of_mem hn (h.mem_iff.2 (getL_mem hb))
/-- What comes out. -/
theorem fold_now (w : Int) (l kept : PRS) : (foldKeep w l []).map (updP w kept) = sortP (foldOut w l kept) := by
  have hs : Srt (foldKeep w l []) := foldKeep_srt List.Pairwise.nil
  refine srt_ext (srt_keys (updP_keys w kept _) hs) (sort_foldOut_srt w l kept) (fun k => ?_)
  rw [getL_updP, getL_foldKeep2, getL_perm (sortP_perm (foldOut w l kept)) ((((sortP_perm _).map Prod.fst).nodup_iff).2 (foldOut_nodup w l kept)), getL_foldOut]
  have h0 : optJ w (getL ([] : PRS) k) (allO w (valsK l k)) = allO w (valsK l k) := rfl
  rw [h0]
  by_cases hk : k ∈ keysK l
  · rw [if_pos hk]
    unfold foldV
    cases ha : allO w (valsK l k) with
    | none =>
      have h1 := allO_isSome w (valsK l k)
      rw [ha] at h1
      have h2 : valsK l k = [] := by simpa using h1
      exact absurd hk (valsK_nil.1 h2)
    | some v => rfl
  · rw [if_neg hk, valsK_nil.2 hk]
    rfl
/-- What is kept. -/
def restK (N kept : PRS) : PRS := kept.filter (fun p => decide (getL N p.1 = none))
theorem getL_filter (f : ByteArray → Bool) : ∀ (l : PRS) (k : ByteArray), getL (l.filter (fun p => f p.1)) k = if f k then getL l k else none
  | [], k => by cases f k <;> rfl
  | p :: r, k => by
    have ih := getL_filter f r k
    by_cases hp : f p.1 = true
    · rw [List.filter_cons_of_pos (by simpa using hp), getL_cons1, getL_cons1, ih]
      by_cases e : p.1 = k
      · subst e; simp [hp]
      · simp [e]
    · rw [List.filter_cons_of_neg (by simpa using hp), getL_cons1, ih]
      by_cases e : p.1 = k
      · subst e; simp [hp]
      · simp [e]
theorem getL_append (a b : PRS) (k : ByteArray) : getL (a ++ b) k = (getL a k).or (getL b k) := by
  unfold getL
  rw [List.find?_append]
  cases a.find? (fun p => decide (p.1 = k)) <;> simp
theorem fold_keeps {w : Int} {l kept : PRS} (hs : Srt kept) : sortP (sortP (foldOut w l kept) ++ restK (sortP (foldOut w l kept)) kept) = foldKeep w l kept := by
  obtain ⟨N, hN⟩ : ∃ N, N = sortP (foldOut w l kept) := ⟨_, rfl⟩
  have hNs : Srt N := by rw [hN]; exact sort_foldOut_srt w l kept
  rw [← hN]
  have hfs : Srt (foldKeep w l kept) := foldKeep_srt hs
  have hrs : Srt (restK N kept) := by
    unfold Srt restK at *
    exact hs.sublist (List.filter_sublist)
  have hnd : ((N ++ restK N kept).map Prod.fst).Nodup := by
    rw [List.map_append, List.nodup_append]
    refine ⟨hNs.nodup, hrs.nodup, fun a ha b hb e => ?_⟩
    subst e
    obtain ⟨p, hp, rfl⟩ := List.mem_map.1 ha
    obtain ⟨q, hq, hqe⟩ := List.mem_map.1 hb
    unfold restK at hq
    have h1 := (List.mem_filter.1 hq).2
    simp only [decide_eq_true_eq] at h1
    rw [getL_none] at h1
    exact h1 p hp hqe.symm
  have hg : ∀ k, getL (N ++ restK N kept) k = getL (foldKeep w l kept) k := fun k => by
    rw [getL_append]
    unfold restK
    rw [getL_filter (fun k => decide (getL N k = none)), getL_foldKeep]
    have h1 : getL N k = if k ∈ keysK l then some (foldV w l kept k) else none := by
      rw [hN, getL_perm (sortP_perm (foldOut w l kept)) ((((sortP_perm _).map Prod.fst).nodup_iff).2 (foldOut_nodup w l kept)), getL_foldOut]
    rw [h1]
    by_cases hk : k ∈ keysK l
    · simp [hk]
    · simp [hk]
  have hperm : (N ++ restK N kept).Perm (foldKeep w l kept) :=
    (List.perm_ext_iff_of_nodup (nodup_of_keys hnd) (nodup_of_keys hfs.nodup)).2 (fun p => by rw [mem_getL hnd, mem_getL hfs.nodup, hg])
  rw [sortP_congr hperm, srt_sortP hfs]
theorem restK_step {N kept : PRS} {i : Nat} (hi : i < kept.length) : restK N (kept.take (i + 1)) = if getL N kept[i].1 = none then restK N (kept.take i) ++ [kept[i]] else restK N (kept.take i) := by
  unfold restK
  rw [List.take_succ_eq_append_getElem hi, List.filter_append]
  by_cases h : getL N kept[i].1 = none
  · rw [if_pos h, List.filter_cons_of_pos (by simpa using h)]; rfl
  · rw [if_neg h, List.filter_cons_of_neg (by simpa using h)]
    exact List.append_nil _
theorem restK_len (N kept : PRS) : (restK N kept).length ≤ kept.length := List.length_filter_le _ _
end Go.Proofs.Ytbianedgogdeeaa

/- Model: the document's fold, walked. -/
namespace Go.Proofs.Ytbianedgogdeeaa
open Go.RowKit Go.Maps Fold Go.Lib
attribute [local go_sem] Oper.semAt_some
set_option linter.unusedVariables false
set_option linter.unusedSimpArgs false

set_option maxRecDepth 100000 in
set_option maxHeartbeats 4000000 in
theorem rfold_any (wh : Int) (l kept : PRS) (ao ko : Option Addr) (cap kcap B : Nat) (w : World) (hB : B ≤ w.heap.size) (hw : ¬ (wh < 0 ∨ 6 < wh)) (hx : PrA B w ao cap l) (hk : PrA B w ko kcap kept) (hok : okL l) (hokk : okL kept) (hs : Srt kept) (hz : l.length ≤ 1000000) (hzk : kept.length ≤ 5864062014805) :
    Calls Try.prog 53 #[.int .i64 wh, .slice ao l.length cap, .slice ko kept.length kcap] w fun e w' => ∃ v1 v2, e = .returned (.tuple #[v1, v2]) ∧ OwnR w' w.heap.size v1 (sortP (foldOut wh l kept)) ∧ OwnR w' w.heap.size v2 (foldKeep wh l kept) ∧ Below w.heap.size w w' := by
  obtain ⟨iR, hiR, hR0, hR1, hR2⟩ := partsR
  have hgr := rgroup_any wh l ao cap B w hB hw hx hok hz
  have hnow := fold_now wh l kept
  have hkeeps := fold_keeps (w := wh) (l := l) hs
  have hNok : okL (foldKeep wh l []) := foldKeep_ok hw List.Pairwise.nil hok (fun p hp => absurd hp (by simp))
  have hNl : (foldKeep wh l []).length ≤ l.length := by
    have := foldKeep_len wh l []
    simpa using this
  obtain ⟨n, hn⟩ : ∃ n, n = l.length := ⟨_, rfl⟩
  obtain ⟨m, hm⟩ : ∃ m, m = kept.length := ⟨_, rfl⟩
  rw [← hn] at hz hgr hNl ⊢
  rw [← hm] at hzk ⊢
  obtain ⟨M, hM⟩ : ∃ M, M = sortP (foldOut wh l kept) := ⟨_, rfl⟩
  obtain ⟨K, hK⟩ : ∃ K, K = foldKeep wh l kept := ⟨_, rfl⟩
  rw [← hM] at hnow hkeeps ⊢
  rw [← hK] at hkeeps ⊢
  obtain ⟨N, hN⟩ : ∃ N, N = foldKeep wh l [] := ⟨_, rfl⟩
  rw [← hN] at hgr hnow hNok hNl
  obtain ⟨nN, hnN⟩ : ∃ nN, nN = N.length := ⟨_, rfl⟩
  rw [← hnN] at hNl
  have hall := updI_all wh kept N
  rw [hnow, ← hnN] at hall
  have hML : M.length = nN := by rw [← hnow, List.length_map, hnN]
  replace hgr := Lib.hid hgr
  replace hnow := Lib.hid hnow
  replace hall := Lib.hid hall
  replace hML := Lib.hid hML
  replace hkeeps := Lib.hid hkeeps
  replace hn := Lib.hid hn
  replace hm := Lib.hid hm
  replace hnN := Lib.hid hnN
  clear hx hN hM hK hs
  go_enter Try.func53, Try.ntmps53
  go_wp2_with (go_at_call 54; refine Shut.out ?ka)
  unfold Shut
  refine hgr.out.mono ?_
  rintro e w1 ⟨v1, rfl, hO1, hb1⟩
  obtain ⟨a1, c1, rfl, hP1⟩ := OwnR.pra hO1
  rw [← hnN.out] at hO1 ⊢
  clear hgr
  dsimp only
  go_wp2_with (at_builtin; refine Shut.out ?kb)
  unfold Shut
  have hba : Below w1.heap.size w1 (w1.alloc (.cells #[] 53)) := belowAlloc _ _
  have hii2 : PrA (w1.alloc (.cells #[] 53)).heap.size (w1.alloc (.cells #[] 53)) a1 c1 N := (hP1.imp' hba (Nat.le_refl _)).imp (Below.refl _ _) hba.size (fun _ _ _ h => h)
  refine wpList_app_sla (xs := []) (ys := N) (enc := encR) (base := w1.heap.size) _ rfl _ _ 29 rfl Try.underlying29 hiR hR0 hR1 hR2 rfl (by decide) rfl (ownEmpty w1 2 53) (by show Value.slice a1 nN c1 = _; rw [hnN.out]) hii2 encR_len encR_one (by have := hnN.out; unfold maxLen; simp; omega) (by have := hnN.out; simp; omega) (by simp) (fun v2 w2 hown2 hgr2 => ?_)
  rw [List.nil_append] at hown2
  have hb2 : Below w1.heap.size w1 w2 := hba.grown hgr2 (by simp) (fun g hg => by simp [Act.eval, Value.ownBlock] at hg; omega)
  have hO2 := OwnL.below hO1 hb2 (Nat.le_refl _)
  have hbw2 := hb1.trans (hb2.mono hb1.size)
  have hap : ∀ g, (Value.slice a1 nN c1).ownBlock = some g → v2.ownBlock ≠ some g := fun g e e2 => by
    have h1 := (hO1.lt g e).2
    have h2 := (OwnL.lt hown2 g e2).1
    omega
  have hQ2 := OwnL.base_le hown2 hb1.size
  obtain ⟨a2, c2, rfl, -⟩ := OwnR.pra hQ2
  rw [← hnN.out] at hQ2 hap ⊢
  clear hba hii2 hgr2 hown2 hO1 hP1
  go_wp2_with fail
  go_loopw [10] (fun x10 wr => ∃ i : Nat, i ≤ nN ∧ x10 = .int .i64 i ∧ OwnR wr w.heap.size (.slice a1 nN c1) (updI wh kept N i) ∧ OwnR wr w.heap.size (.slice a2 nN c2) (updI wh kept N i) ∧ Below w.heap.size w wr) (fun x10 _ => nN - (intOf x10).toNat)
  case atStart => exact ⟨0, Nat.zero_le _, rfl, by rw [updI_zero]; exact hO2, by rw [updI_zero]; exact hQ2, hbw2⟩
  case round =>
    clear hO2 hQ2 hbw2 hb1 hb2
    obtain ⟨i, hi, rfl, hO, hQ, hbr⟩ := hrel
    by_cases hin : i < nN
    · have d1 : decide ((i : Int) < (nN : Int)) = true := by simp; omega
      have hiN : i < N.length := by rw [← hnN.out]; exact hin
      have hul := updI_len wh kept N i
      have hui : i < (updI wh kept N i).length := by rw [hul]; exact hiN
      rcases hO.form with ⟨-, e⟩ | ⟨g1, gc1, cells1, e1, -, -, -, -, -, -, -⟩
      · rw [e] at hui; simp at hui
      rcases hQ.form with ⟨-, e⟩ | ⟨g2, gc2, cells2, e2, -, -, -, -, -, -, -⟩
      · rw [e] at hui; simp at hui
      simp only [Value.slice.injEq] at e1 e2
      obtain ⟨rfl, -, rfl⟩ := e1
      obtain ⟨rfl, -, rfl⟩ := e2
      have hg12 : g1 ≠ g2 := fun e => hap g1 rfl (by rw [e]; rfl)
      have hlt1 := hO.lt g1 rfl
      have hlt2 := hQ.lt g2 rfl
      have hcl := own_cellX hO encR_len hui
      have hclQ := own_cellX hQ encR_len hui
      rw [updI_at hiN] at hcl
      have q0 : wr.cell? ⟨g1, i * 2, none⟩ = some (.string N[i].1) := by simpa [encR] using hcl.1 0 (by omega)
      have q1 : wr.cell? ⟨g1, i * 2 + 1, none⟩ = some (.int .u32 (N[i].2 : Nat)) := by simpa [encR] using hcl.1 1 (by omega)
      have z1 : wr.cell? ⟨g2, i * 2 + 1, none⟩ = some (.int .u32 (N[i].2 : Nat)) := by
        have := hclQ.1 1 (by omega)
        rw [updI_at hiN] at this
        simpa [encR] using this
      have qf := hcl.2 (i * 2 + 1)
      have qg := hclQ.2 (i * 2 + 1)
      have hnone := updI_none (w := wh) (kept := kept) hiN
      have hstep := updI_step (w := wh) (kept := kept) hiN
      have hget := updI_at (w := wh) (kept := kept) hiN
      have hset1 : ∀ (W : World) (x : Nat), updP wh kept N[i] = (N[i].1, x) → OwnR W w.heap.size (.slice (some ⟨g1, 0, none⟩) nN c1) (updI wh kept N i) → OwnR (W.setCell ⟨g1, i * 2 + 1, none⟩ (.int .u32 (x : Nat))) w.heap.size (.slice (some ⟨g1, 0, none⟩) nN c1) (updI wh kept N (i + 1)) := fun W x hx h => by
        rw [hstep, hx]
        exact own_setX h encR_len hui (j := 1) (by omega) (by rw [hget]; rfl)
      have hset2 : ∀ (W : World) (x : Nat), updP wh kept N[i] = (N[i].1, x) → OwnR W w.heap.size (.slice (some ⟨g2, 0, none⟩) nN c2) (updI wh kept N i) → OwnR (W.setCell ⟨g2, i * 2 + 1, none⟩ (.int .u32 (x : Nat))) w.heap.size (.slice (some ⟨g2, 0, none⟩) nN c2) (updI wh kept N (i + 1)) := fun W x hx h => by
        rw [hstep, hx]
        exact own_setX h encR_len hui (j := 1) (by omega) (by rw [hget]; rfl)
      have hpo := hNok N[i] (List.getElem_mem hiN)
      have hup : updP wh kept N[i] = (N[i].1, (optJ wh (getL kept N[i].1) (some N[i].2)).getD 0) := rfl
      have hfd := rfind_any kept N[i].1 ko kcap B wr (hk.imp' (hbr.mono hB) (Nat.le_refl _))
      obtain ⟨p, hp⟩ : ∃ p, p = N[i] := ⟨_, rfl⟩
      rw [← hp] at q0 q1 z1 hnone hset1 hset2 hpo hup hfd
      rw [← hm.out] at hfd
      replace hp := Lib.hid hp
      replace hnone := Lib.hid hnone
      replace hset1 := Lib.hid hset1
      replace hset2 := Lib.hid hset2
      clear hcl hclQ hget hstep hul hui
      cases hg : getL kept p.1 with
      | none =>
        rw [hg] at hfd
        have hn2 := hnone.out hg
        rw [← hn2] at hO hQ
        replace hfd := Lib.hid hfd
        clear hnone hset1 hset2 hup hg hn2
        go_wp2_with (go_at_call 55; refine (hfd.out).mono ?_; rintro e w' ⟨rfl, hww⟩; obtain rfl : wr = w' := hww.symm; dsimp only)
        go_roundw
        case rel => exact ⟨i + 1, by omega, by go_num, hO, hQ, hbr⟩
        case measure => simp [intOf]; omega
      | some o =>
        rw [hg] at hfd hup
        have ho : o < 4294967296 := (hokk _ (getL_mem hg)).2
        have hjn := fun W => rjoin_any wh o p.2 W ho hpo.2
        have hupJ : updP wh kept p = (p.1, joinN wh o p.2) := hup
        have r1 := hset1.out wr _ hupJ hO
        have chg1 : Chg (fun k => k = g1) wr (wr.setCell ⟨g1, i * 2 + 1, none⟩ (.int .u32 (joinN wh o p.2 : Nat))) := (Chg.refl _ _).setCell _ _ (fun _ => rfl)
        have r2 := hset2.out _ _ hupJ (hQ.chg chg1 (fun g e e2 => by
          simp only [Value.ownBlock, Option.some.injEq] at e
          exact hg12 (by omega)))
        have chg2 : Chg (fun k => k = g2) (wr.setCell ⟨g1, i * 2 + 1, none⟩ (.int .u32 (joinN wh o p.2 : Nat))) ((wr.setCell ⟨g1, i * 2 + 1, none⟩ (.int .u32 (joinN wh o p.2 : Nat))).setCell ⟨g2, i * 2 + 1, none⟩ (.int .u32 (joinN wh o p.2 : Nat))) := (Chg.refl _ _).setCell _ _ (fun _ => rfl)
        have r3 := OwnL.chg r1 chg2 (fun g e e2 => by
          simp only [Value.ownBlock, Option.some.injEq] at e
          exact hg12 (by omega))
        have hb3 := (hbr.setCell (p := ⟨g1, i * 2 + 1, none⟩) hlt1.1 (.int .u32 (joinN wh o p.2 : Nat))).setCell (p := ⟨g2, i * 2 + 1, none⟩) hlt2.1 (.int .u32 (joinN wh o p.2 : Nat))
        obtain ⟨J, hJ⟩ : ∃ J, J = joinN wh o p.2 := ⟨_, rfl⟩
        rw [← hJ] at r2 r3 hb3 hjn
        replace hJ := Lib.hid hJ
        have hg21 : g2 ≠ g1 := fun e => hg12 e.symm
        replace hfd := Lib.hid hfd
        replace hjn := Lib.hid hjn
        clear hup hupJ hnone hg hset1 hset2 r1 chg1 chg2 hO hQ hbr
        go_wp2_with (go_at_call 55; refine (hfd.out).mono ?_; rintro e w' ⟨rfl, hww⟩; obtain rfl : wr = w' := hww.symm; dsimp only)
        go_wp2_with (go_at_call 56; refine (hjn.out _).mono ?_; rintro e w' ⟨rfl, rfl⟩; dsimp only)
        go_roundw
        case rel => exact ⟨i + 1, by omega, by go_num, r3, r2, hb3⟩
        case measure => simp [intOf]; omega
    · have d1 : decide ((i : Int) < (nN : Int)) = false := by simp; omega
      obtain rfl : nN = i := by omega
      rw [hall.out] at hO hQ
      clear hall hnow
      have hQ0 : OwnR wr w.heap.size (.slice a2 nN c2) (M ++ restK M (kept.take 0)) := by
        rw [List.take_zero, show restK M [] = [] from rfl, List.append_nil]
        exact hQ
      obtain ⟨wo, rfl⟩ : ∃ wo, wo = wr := ⟨_, rfl⟩
      clear hQ
      go_wp2_with fail
      go_loopw [9, 13] (fun x9 x13 wr => ∃ i : Nat, i ≤ m ∧ x13 = .int .i64 i ∧ OwnR wr w.heap.size (.slice a1 nN c1) M ∧ OwnR wr w.heap.size x9 (M ++ restK M (kept.take i)) ∧ (∀ g, (Value.slice a1 nN c1).ownBlock = some g → x9.ownBlock ≠ some g) ∧ Below w.heap.size w wr) (fun _ x13 _ => m - (intOf x13).toNat)
      case atStart => exact ⟨0, Nat.zero_le _, rfl, hO, hQ0, hap, hbr⟩
      case round =>
        clear hO hQ0 hap hbr
        obtain ⟨i, hi, rfl, hO, hQ, hap, hbr⟩ := hrel
        obtain ⟨xa, xc, rfl, hQP⟩ := OwnR.pra hQ
        obtain ⟨nK, hnK⟩ : ∃ nK, nK = (M ++ restK M (kept.take i)).length := ⟨_, rfl⟩
        have hnKb : nK ≤ n + m := by
          have h1 := restK_len M (kept.take i)
          have h2 := hML.out
          rw [List.length_take] at h1
          rw [hnK, List.length_append]
          have := hm.out
          omega
        rw [← hnK] at hQ hap ⊢
        obtain ⟨oa, oc, e1, hOP⟩ := OwnR.pra hO
        rw [hML.out] at e1
        simp only [Value.slice.injEq, true_and] at e1
        obtain ⟨rfl, rfl⟩ := e1
        by_cases him : i < m
        · have d2 : decide ((i : Int) < (m : Int)) = true := by simp; omega
          have hik : i < kept.length := by rw [← hm.out]; exact him
          obtain ⟨kb, ko', rfl, hkb, _⟩ := hk.addr (by omega)
          have hkbw : kb < wr.heap.size := by have := hbr.size; omega
          obtain ⟨p0, p1⟩ := PrA.at (hk.imp' (hbr.mono hB) (Nat.le_refl _)) hik
          have hstep := restK_step (N := M) hik
          have hfd := rfind_any M kept[i].1 a1 c1 _ wr hOP
          obtain ⟨p, hp⟩ : ∃ p, p = kept[i] := ⟨_, rfl⟩
          rw [← hp] at p0 p1 hstep hfd
          rw [hML.out] at hfd
          replace hp := Lib.hid hp
          replace hnK := Lib.hid hnK
          cases hg : getL M p.1 with
          | some o =>
            rw [hg] at hfd
            rw [if_neg (by rw [hg]; simp)] at hstep
            rw [← hstep] at hQ hnK
            replace hfd := Lib.hid hfd
            clear hstep hg hOP hQP p1
            go_wp2_with (go_at_call 55; refine (hfd.out).mono ?_; rintro e w' ⟨rfl, hww⟩; obtain rfl : wr = w' := hww.symm; dsimp only)
            go_roundw
            case rel => exact ⟨i + 1, by omega, by go_num, hO, hQ, hap, hbr⟩
            case measure => simp [intOf]; omega
          | none =>
            rw [hg] at hfd
            rw [if_pos hg] at hstep
            replace hfd := Lib.hid hfd
            replace hstep := Lib.hid hstep
            clear hg hOP hQP
            go_wp2_with (first | (go_at_call 55; refine (hfd.out).mono ?_; rintro e w' ⟨rfl, hww⟩; obtain rfl : wr = w' := hww.symm; dsimp only) | (at_builtin; refine Shut.out ?kc))
            unfold Shut
            refine wpList_app1q rfl _ _ 29 rfl Try.underlying29 hiR hR0 hR1 hR2 rfl (enc := encR) p rfl hQ rfl (encR_len _) (encR_one _) (by rw [← hnK.out]; omega) (by rw [← hnK.out]; unfold maxLen; omega) hbr.size ?_
            intro g7 cap7 w7 hown7 hgr7
            rw [← hnK.out] at hown7 hgr7 ⊢
            replace hgr7 : Grew wr (Value.slice xa nK xc) w7 (Value.slice (some ⟨g7, 0, none⟩) (nK + 1) cap7) := hgr7
            have hb7 := hbr.trans (hgr7.below hbr.size (fun g e => (OwnL.lt hQ g e).1))
            have hO7 := OwnL.chg hO (Chg.of_grown hgr7.grown) (fun g e => hap g e)
            have hap7 : ∀ g, (Value.slice a1 nN c1).ownBlock = some g → (Value.slice (some ⟨g7, 0, none⟩) (nK + 1) cap7).ownBlock ≠ some g := fun g e e2 => by
              rcases hgr7.place with h | ⟨q, hq, hql⟩
              · exact hap g e (by rw [← h]; exact e2)
              · rw [hq] at e2
                simp only [Option.some.injEq] at e2
                have := (OwnL.lt hO g e).2
                omega
            rw [List.append_assoc, ← hstep.out] at hown7
            clear hgr7 hO hQ hap hbr
            go_wp2_with fail
            go_roundw
            case rel => exact ⟨i + 1, by omega, by go_num, hO7, hown7, hap7, hb7⟩
            case measure => simp [intOf]; omega
        · have d2 : decide ((i : Int) < (m : Int)) = false := by simp; omega
          have hti : kept.take i = kept := List.take_of_length_le (by have := hm.out; omega)
          rw [hti] at hQP hnK
          have hord := rorder_any _ (M ++ restK M kept) xa xc _ wr rfl (Nat.le_refl _) hQP (by omega)
          rw [← hnK, hkeeps.out] at hord
          replace hord := Lib.hid hord
          replace hnK := Lib.hid hnK
          clear hQP hOP hQ hti
          go_wp2_with (go_at_call 19; refine Shut.out ?kd)
          unfold Shut
          refine hord.out.mono ?_
          rintro e w8 ⟨v8, rfl, hO8, hb8⟩
          have hM8 := OwnL.below hO hb8 (Nat.le_refl _)
          have hfin := hbr.trans (hb8.mono hbr.size)
          have hK8 := OwnL.base_le hO8 hbr.size
          clear hO8 hb8 hord hO hbr
          dsimp only
          go_wp2_with fail
          go_ret2
          exact ⟨_, _, rfl, hM8, hK8, hfin⟩
end Go.Proofs.Ytbianedgogdeeaa
