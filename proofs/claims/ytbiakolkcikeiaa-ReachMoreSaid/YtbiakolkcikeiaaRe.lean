/- Reach: the reference's Next; SameStamps. -/
import Derived.Test.YtbiakolkcikeiaaRd
namespace Go.Proofs.Ytbiakolkcikeiaa
open Go.RowKit Go.Shelf
set_option linter.unusedVariables false
set_option linter.unusedSimpArgs false

/-- The variables of the reference's Next. -/
structure MSt (w wr : World) (fb : Nat) (ao : Option Addr) (n cap : Nat) (l e r : Int) : Prop where
  bel : Below w.heap.size w wr
  g : Blk wr w.heap.size #[.slice ao n cap] 24
  s : Blk wr (w.heap.size + 1) #[.int .i64 l, .int .i64 e, .int .i64 r] 28
  f : Blk wr fb #[.int .i64 l, .int .i64 e, .int .i64 (r + 1)] 28
  o1 : w.heap.size + 1 < fb
namespace MSt
variable {w wr wr' : World} {fb : Nat} {ao : Option Addr} {n cap : Nat} {l e r : Int}
theorem below {B : Nat} (h : MSt w wr fb ao n cap l e r) (k : Below B wr wr') (hB : fb < B) : MSt w wr' fb ao n cap l e r := by
  have := h.o1
  exact ⟨h.bel.trans (k.mono (by omega)), h.g.below k (by omega), h.s.below k (by omega), h.f.below k hB, h.o1⟩
theorem facts (h : MSt w wr fb ao n cap l e r) : wr.cell? ⟨w.heap.size, 0, none⟩ = some (.slice ao n cap) ∧
    wr.cell? ⟨w.heap.size + 1, 0, none⟩ = some (.int .i64 l) ∧ wr.cell? ⟨w.heap.size + 1, 1, none⟩ = some (.int .i64 e) ∧ wr.cell? ⟨w.heap.size + 1, 2, none⟩ = some (.int .i64 r) ∧
    wr.cell? ⟨fb, 0, none⟩ = some (.int .i64 l) ∧ wr.cell? ⟨fb, 1, none⟩ = some (.int .i64 e) ∧ wr.cell? ⟨fb, 2, none⟩ = some (.int .i64 (r + 1)) ∧ fb < wr.heap.size :=
  ⟨h.g.cellAt rfl, h.s.cellAt rfl, h.s.cellAt rfl, h.s.cellAt rfl, h.f.cellAt rfl, h.f.cellAt rfl, h.f.cellAt rfl, h.f.lt⟩
end MSt
/-- The uses lie in a row of their own. -/
def UCells (w : World) (au : Option Addr) (U : List (Nat × Nat)) : Prop := ∀ (i : Nat) (x : Nat × Nat), U[i]? = some x → ∃ g cells, au = some ⟨g, 0, none⟩ ∧ Blk w g cells 72 ∧ cells[i * 2]? = some (.int .i64 (x.1 : Nat)) ∧ cells[i * 2 + 1]? = some (.int .i64 (x.2 : Nat))
theorem UCells.chg {w w' : World} {au : Option Addr} {U : List (Nat × Nat)} {S : Nat → Prop} (h : UCells w au U) (k : Chg S w w') (hS : ∀ b cs, S b → ¬ Blk w b cs 72) : UCells w' au U := fun i x hx => by
  obtain ⟨g, cells, h1, h2, h3⟩ := h i x hx
  exact ⟨g, cells, h1, h2.chg k (fun hs => hS _ _ hs h2), h3⟩
theorem UCells.of_own {w : World} {base cap : Nat} {au : Option Addr} {U : List (Nat × Nat)} (h : OwnL encU w base 72 2 (.slice au U.length cap) U) : UCells w au U := fun i x hx => by
  obtain ⟨hi, rfl⟩ := List.getElem?_eq_some_iff.1 hx
  rcases h.form with ⟨_, h1⟩ | ⟨g, cap', cells, h1, h2, _, _, _, _, _, h8⟩
  · subst h1; cases hi
  · simp only [Value.slice.injEq] at h1
    have key : ∀ j, j < 2 → cells[i * 2 + j]? = (encU U[i])[j]? := fun j hj => by
      rw [← flat_at encU_len U i j hi hj, ← h8, List.getElem?_take, if_pos]
      · simp
      · omega
    refine ⟨g, cells, h1.1, h2, ?_, ?_⟩
    · have := key 0 (by omega); simpa [encU] using this
    · have := key 1 (by omega); simpa [encU] using this

theorem goodS_small {ops : List TOp} (hok : (gcheck ops).2 = 0) {k : Nat} {e r : Int} {o : TOp} (ho : ops[k]? = some o) (h : goodS ops k e r = true) : r ≤ 16 := by
  have hgT : goodT ⟨e, r⟩ = true := by
    unfold goodS at h
    simp only [Bool.and_eq_true] at h
    exact h.1.2
  rw [goodS_at ho hgT] at h
  simp only [Bool.or_eq_true, Bool.and_eq_true, decide_eq_true_eq] at h
  rcases h with h | ⟨h1, h2⟩
  · omega
  · have := rounds_at hok ho h1; omega

set_option maxRecDepth 100000 in
set_option maxHeartbeats 4000000 in
theorem rnext_any (ops : List TOp) (cap : Nat) (ao : Option Addr) (l e r : Int) (B : Nat) (w : World) (hB : B ≤ w.heap.size) (hx : SlA B 7 (ROp B) w ao cap ops) :
    Calls Try.prog 15 #[.agg #[.slice ao ops.length cap], .agg #[.int .i64 l, .int .i64 e, .int .i64 r]] w fun x w' => Below w.heap.size w w' ∧ ∃ v, x = .returned v ∧ OwnL encS w' w.heap.size 28 3 v (nextS ops l e r) := by
  have hGd := fun W hb => rGood_any ops cap ao l e r B W (Nat.le_trans hB (Below.size hb)) (imp_ops hx (hb.mono hB))
  by_cases hgood : (decide ((gcheck ops).2 = 0) && goodS ops l e r) = true
  · obtain ⟨hok, hgs⟩ := by simpa [Bool.and_eq_true] using hgood
    rw [hgood] at hGd
    have hG := okG_of_check hok
    obtain ⟨k, rfl, hk⟩ := goodS_in hgs
    obtain ⟨o, ho⟩ : ∃ o, ops[k] = o := ⟨_, rfl⟩
    have hok2 : ops[k]? = some o := by rw [List.getElem?_eq_getElem hk, ho]
    have hr16 := goodS_small hok hok2 hgs
    have hgT : goodT ⟨e, r⟩ = true := by
      unfold goodS at hgs
      simp only [Bool.and_eq_true] at hgs
      exact hgs.1.2
    have hnn := goodT_nn hgT
    have hnx : nextS ops k e r = furS ops k e r ++ (usesL ops (k : Nat)).map (useS e) := by unfold nextS; rw [if_pos hgood]
    have hGf := fun W hb => rGood_any ops cap ao (k : Nat) e (r + 1) B W (Nat.le_trans hB (Below.size hb)) (imp_ops hx (hb.mono hB))
    have hgT2 : goodT ⟨e, r + 1⟩ = true := by unfold goodT; exact decide_eq_true ⟨hnn.1, by dsimp only; omega⟩
    obtain ⟨c, hc⟩ : ∃ c, c = (decide (o.fKind = 7) && decide (r + 1 < o.fRounds)) := ⟨_, rfl⟩
    rw [decide_eq_true hok, Bool.true_and, goodS_at hok2 hgT2, decide_eq_false (show ¬ r + 1 = 0 by omega), Bool.false_or, ← hc] at hGf
    have hfc : furS ops k e r = if c then [⟨(k : Nat), ⟨e, r + 1⟩⟩] else [] := by
      unfold furS
      rw [opAt_get hok2]
      by_cases h : o.fKind = 7 ∧ r < o.fRounds - 1
      · rw [if_pos h, hc, decide_eq_true h.1, decide_eq_true (by omega)]; rfl
      · rw [if_neg h, hc]
        by_cases h7 : o.fKind = 7
        · rw [decide_eq_false (show ¬ r + 1 < o.fRounds by omega), Bool.and_false]; rfl
        · rw [decide_eq_false h7, Bool.false_and]; rfl
    have hc7 : (o.fKind == 7) = false → c = false := fun h => by rw [hc, decide_eq_false (by simpa using h), Bool.false_and]
    have hul := uses_le' hok (k : Int)
    have hU := fun W hb => ruses_any ops cap ao (k : Nat) B W (Nat.le_trans hB (Below.size hb)) (imp_ops hx (hb.mono hB)) (by omega)
    obtain ⟨gb, goff, rfl, hgb, hq⟩ := hx.addr (by omega)
    clear hq
    have hl2 : ∀ W : World, Below w.heap.size w W → W.cell? ⟨gb, goff + k * 7, none⟩ = some (.int .i64 o.fKind) := fun W hb => (ROp.at (imp_ops hx (hb.mono hB)) hk ho).choose_spec.choose_spec.1
    rw [hnx]
    obtain ⟨i0, hi, hz0, hz1, hz2⟩ := info_parts infoS
    obtain ⟨n, hn⟩ : ∃ n, n = ops.length := ⟨_, rfl⟩
    rw [← hn] at hGd hGf hU hk ⊢
    have hmost : n ≤ 16 := by rw [hn]; exact hG.most
    generalize o.fKind = ki at hl2 hc7 hc
    replace hok := Lib.hid hok
    replace hn := Lib.hid hn
    replace hfc := Lib.hid hfc
    replace hl2 := Lib.hid hl2
    replace hc7 := Lib.hid hc7
    clear hgood hgs hnx hG hok2 ho hgT hgT2 hc
    go_enter Try.func15, Try.ntmps15
    go_wp2_with fail
    refine (hGd _ ((by repeat (first | exact Below.refl _ _ | assumption | refine below_drewN ?_ _ | refine Below.drew ?_ | (refine Below.setCell ?_ (by first | omega | (simp; omega) | simp) _) | (refine Below.alloc ?_ (by first | omega | (simp; omega) | simp) _) | (refine Below.trans ?_ (Below.mono (by assumption) (by first | omega | (simp; omega) | simp))))))).mono ?_
    rintro x w3 ⟨rfl, b3⟩
    have hbel : Below w.heap.size w w3 := (by repeat (first | exact Below.refl _ _ | assumption | refine below_drewN ?_ _ | refine Below.drew ?_ | (refine Below.setCell ?_ (by first | omega | (simp; omega) | simp) _) | (refine Below.alloc ?_ (by first | omega | (simp; omega) | simp) _) | (refine Below.trans ?_ (Below.mono (by assumption) (by first | omega | (simp; omega) | simp)))))
    have hG3 : Blk w3 w.heap.size #[.slice (some ⟨gb, goff, none⟩) n cap] 24 := ((Blk.new _ _ _).alloc _).below b3 (by simp; omega)
    have hS3 : Blk w3 (w.heap.size + 1) #[.int .i64 k, .int .i64 e, .int .i64 r] 28 := by
      have := Blk.new (w.alloc (.cells #[.slice (some ⟨gb, goff, none⟩) n cap] 24)) #[.int .i64 k, .int .i64 e, .int .i64 r] 28
      rw [World.size_alloc] at this
      exact this.below b3 (by simp)
    have g0 := hG3.cellAt (i := 0) (v := .slice (some ⟨gb, goff, none⟩) n cap) rfl
    have s0 := hS3.cellAt (i := 0) (v := .int .i64 k) rfl
    have s1 := hS3.cellAt (i := 1) (v := .int .i64 e) rfl
    have s2 := hS3.cellAt (i := 2) (v := .int .i64 r) rfl
    have hr17 : r + 1 ≤ 17 := by omega
    clear b3 hGd
    go_upto_region 5 with fail
    obtain ⟨fb, hfb⟩ : ∃ fb, fb = w3.heap.size := ⟨_, rfl⟩
    have hM : MSt w (w3.alloc (.cells #[.int .i64 k, .int .i64 e, .int .i64 (r + 1)] 28)) fb (some ⟨gb, goff, none⟩) n cap k e r := by
      rw [hfb]
      exact ⟨hbel.alloc hbel.size _, hG3.alloc _, hS3.alloc _, Blk.new _ _ _, hS3.lt⟩
    rw [← hfb]
    generalize w3.alloc (.cells #[.int .i64 k, .int .i64 e, .int .i64 (r + 1)] 28) = w4 at hM ⊢
    clear hbel hG3 hS3 hfb g0 s0 s1 s2 w3
    go_cut [36] from 24 to 36 (fun s wx => s = .bool c ∧ MSt w wx fb (some ⟨gb, goff, none⟩) n cap k e r)
    case first =>
      obtain ⟨c0, c1, c2, c3, c4, c5, c6, cl⟩ := hM.facts
      have f0 := hl2.out w4 hM.bel
      have hgw : gb < w4.heap.size := by have := hM.bel.size; omega
      cases c7 : (ki == 7) with
      | false =>
        go_wp2_with fail
        go_meet
        case rel => exact ⟨by rw [hc7.out c7], hM⟩
      | true =>
        go_wp2_with fail
        refine (hGf _ hM.bel).mono ?_
        rintro x w5 ⟨rfl, b5⟩
        go_wp2_with fail
        go_meet
        case rel => exact ⟨rfl, hM.below b5 hM.f.lt⟩
    case rest =>
      clear hM hGf hc7 hl2 w4
      obtain ⟨rfl, hM⟩ := hcut
      go_upto_if 36 with fail
      go_cut [5] from 37 to 40 (fun s wx => MSt w wx fb (some ⟨gb, goff, none⟩) n cap k e r ∧ OwnL encS wx (fb + 1) 28 3 s (furS ops k e r))
      case first =>
        obtain ⟨c0, c1, c2, c3, c4, c5, c6, cl⟩ := hM.facts
        cases c with
        | true =>
          have hL := OwnL.nil encS wc (fb + 1) 28 3
          go_wp2_with (at_builtin; refine Shut.out ?stop1)
          unfold Shut
          refine wpList_app1 rfl _ _ 33 rfl Try.underlying33 hi hz0 hz1 hz2 rfl (by decide) (enc := encS) ⟨(k : Nat), ⟨e, r + 1⟩⟩ rfl hL rfl (encS_len _) (encS_one _) (by first | omega | (simp; done) | (simp; omega)) (by unfold maxLen; first | omega | (simp; done) | (simp; omega)) (cl) ?_
          intro a1 cp1 w8 hown8 hb8 hgr
          have hM8 := hM.below hb8 (Nat.lt_succ_self _)
          clear hb8 hgr hL
          go_wp2_with fail
          go_meet
          case rel => exact ⟨hM8, by rw [hfc.out]; exact hown8⟩
        | false =>
          go_wp2_with fail
          go_meet
          case rel => exact ⟨hM, by rw [hfc.out]; exact OwnL.nil _ _ _ _ _⟩
      case rest =>
        clear hM hfc
        obtain ⟨hM, hown⟩ := hcut
        have hF1 : (furS ops k e r).length ≤ 1 := by unfold furS; split <;> simp
        obtain ⟨F0, hF0⟩ : ∃ F, F = furS ops k e r := ⟨_, rfl⟩
        rw [← hF0] at hown hF1
        replace hF0 := Lib.hid hF0
        obtain ⟨vf, hvf⟩ : ∃ vf, vf = u5 := ⟨_, rfl⟩
        obtain ⟨c0, c1, c2, c3, c4, c5, c6, cl⟩ := hM.facts
        go_wp2_with fail
        refine (hU _ hM.bel).mono ?_
        rintro x w8 ⟨b8, vu, rfl, hown8⟩
        have hM8 := hM.below b8 hM.f.lt
        have hownF := hown.below b8 (Nat.le_refl _)
        obtain ⟨au, cu, rfl, _, _, _⟩ := hown8.slice
        have hUC := UCells.of_own hown8
        obtain ⟨U, hUe⟩ : ∃ U, U = usesL ops (k : Nat) := ⟨_, rfl⟩
        rw [← hUe] at hul hUC ⊢
        replace hUe := Lib.hid hUe
        obtain ⟨nu, hnu⟩ : ∃ nu, nu = U.length := ⟨_, rfl⟩
        rw [← hnu] at hul ⊢
        replace hnu := Lib.hid hnu
        clear c0 c1 c2 c3 c4 c5 c6 cl b8 hown hM hown8 hU hvf
        dsimp only
        go_wp2_with fail
        go_loopw [5, 8] (fun v x8 wr => ∃ i : Nat, i ≤ nu ∧ x8 = .int .i64 i ∧ MSt w wr fb (some ⟨gb, goff, none⟩) n cap k e r ∧ UCells wr au U ∧ OwnL encS wr (fb + 1) 28 3 v (F0 ++ (U.take i).map (useS e))) (fun _ x8 _ => nu - (intOf x8).toNat)
        case atStart => exact ⟨0, Nat.zero_le _, rfl, hM8, hUC, by simpa using hownF⟩
        case round =>
          clear hM8 hUC hownF
          obtain ⟨i, hiu, rfl, hM, hUC, hown⟩ := hrel
          by_cases hlt : i < nu
          · have hiU : i < U.length := by rw [← hnu.out]; exact hlt
            obtain ⟨x, hx2⟩ : ∃ x, U[i] = x := ⟨_, rfl⟩
            have hxs : U[i]? = some x := by rw [List.getElem?_eq_getElem hiU, hx2]
            obtain ⟨g, cells, rfl, hU1, hU2, hU3⟩ := hUC i x hxs
            have u0 := hU1.cellAt hU2
            have u1 := hU1.cellAt hU3
            have htk : F0 ++ (U.take (i + 1)).map (useS e) = (F0 ++ (U.take i).map (useS e)) ++ [⟨(x.1 : Nat), ⟨e, 0⟩⟩] := by
              rw [List.take_add_one, hxs, Option.toList_some, List.map_append, List.append_assoc]
              rfl
            obtain ⟨LL, hLL⟩ : ∃ LL, LL = F0 ++ (U.take i).map (useS e) := ⟨_, rfl⟩
            rw [← hLL] at hown htk
            have hLl : LL.length ≤ 33 := by
              rw [hLL]
              simp only [List.length_append, List.length_map, List.length_take]
              omega
            obtain ⟨av, cv, hvv, _, _, _⟩ := hown.slice
            subst hvv
            obtain ⟨nl, hnl⟩ : ∃ nl, nl = LL.length := ⟨_, rfl⟩
            rw [← hnl] at hown ⊢
            replace hnl := Lib.hid hnl
            replace htk := Lib.hid htk
            obtain ⟨c0, c1, c2, c3, c4, c5, c6, cl⟩ := hM.facts
            have hgl : g < wr.heap.size := hU1.lt
            clear hLL hx2 hxs hU2 hU3
            generalize x.1 = xb at u0 htk
            generalize x.2 = xk at u1
            go_wp2_with fail
            refine wp_region_calm (fun wx => wx.cell? ⟨g, i * 2, none⟩ = some (.int .i64 xb) ∧ wx.cell? ⟨w.heap.size + 1, 1, none⟩ = some (.int .i64 e)) 12 [11] (by kernel_rfl) (by kernel_rfl) (fun d _ _ _ _ h => by cases d <;> exact h) ⟨u0, c2⟩ (fun hHeld => ?_)
            simp only [List.take_succ_cons, List.take_zero, List.drop_succ_cons, List.drop_zero]
            iterate 11 (refine wpCalm_q0 rfl rfl ⟨?_, ?_, ?_⟩; rotate_left; (focus (intro wx hSx; (try dsimp only at hSx); go_simp; (try with_reducible rfl))); (simp only [Act.put, List.setIfInBounds_toArray, List.set_cons_zero, List.set_cons_succ]))
            refine wpCalm_s rfl rfl (fun K' hK => ?_)
            go_simp
            refine hK.out _ _ ⟨by rw [show ((wr.alloc (.cells #[.int .i64 xb, .int .i64 e, .int .i64 0] 28)).drew).cell? ⟨g, i * 2, none⟩ = wr.cell? ⟨g, i * 2, none⟩ from World.cell?_alloc_lt _ _ _ hgl]; exact u0, (Blk.drew (hM.s.alloc _)).cellAt rfl⟩ ?_
            clear hK K'
            try simp only [Act.put, List.setIfInBounds_toArray, List.set_cons_zero, List.set_cons_succ]
            refine wpCalm_nil ?_
            change wpList _ _ _ _ _ ((wr.drew).alloc (.cells #[.int .i64 xb, .int .i64 e, .int .i64 0] 28))
            have hM9 : MSt w wr.drew fb (some ⟨gb, goff, none⟩) n cap k e r := hM.below ((Below.refl wr.heap.size wr).drew) hM.f.lt
            have hown9 : OwnL encS wr.drew (fb + 1) 28 3 (.slice av nl cv) LL := hown
            have hUC9 : UCells wr.drew (some ⟨g, 0, none⟩) U := hUC
            clear c0 c1 c2 c3 c4 c5 c6 u0 u1 hHeld hU1 hgl cl
            have cl9 := hM9.f.lt
            go_wp2_with (at_builtin; refine Shut.out ?stop2)
            unfold Shut
            refine wpList_app1 rfl _ _ 33 rfl Try.underlying33 hi hz0 hz1 hz2 rfl (by decide) (enc := encS) ⟨(xb : Nat), ⟨e, 0⟩⟩ rfl hown9 rfl (encS_len _) (encS_one _) (by first | omega | (simp; done) | (simp; omega)) (by unfold maxLen; first | omega | (simp; done) | (simp; omega)) (cl9) ?_
            intro a1 cp1 w10 hown10 hb10 hgr
            have hM10 := hM9.below hb10 (Nat.lt_succ_self _)
            have hgr2 : wr.drew.grownBy w10 (Value.slice av nl cv).ownBlock := hgr
            have hUC10 := hUC9.chg (Chg.of_grown hgr2) (fun b cs hb hbk => by
              rcases hown9.form with ⟨h1, _⟩ | ⟨g', cap', cells', h1, h2, _⟩
              · rw [h1] at hb; cases hb
              · rw [h1] at hb
                obtain rfl : g' = b := by simpa [Value.ownBlock] using hb
                exact absurd (blk_inj h2 hbk).2 (by decide))
            rw [← hnl.out] at hown10 ⊢
            clear hb10 hgr
            go_wp2_with fail
            go_roundw
            case rel => exact ⟨i + 1, by omega, by go_num, hM10, hUC10, by rw [htk.out]; exact hown10⟩
            case measure => simp [intOf]; omega
          · obtain rfl : i = nu := by omega
            go_wp2_with fail
            go_ret
            refine ⟨hM.bel, _, rfl, ?_⟩
            rw [hnu.out, List.take_length] at hown
            have h1 := hM.o1
            rw [← hF0.out, ← hUe.out]
            refine OwnL.base_le hown ?_
            omega
  · rw [show nextS ops l e r = [] by unfold nextS; rw [if_neg hgood]]
    rw [Bool.not_eq_true] at hgood
    rw [hgood] at hGd
    clear hgood
    generalize ops.length = n at hGd ⊢
    go_enter Try.func15, Try.ntmps15
    go_wp2_with fail
    refine (hGd _ ((by repeat (first | exact Below.refl _ _ | assumption | refine below_drewN ?_ _ | refine Below.drew ?_ | (refine Below.setCell ?_ (by first | omega | (simp; omega) | simp) _) | (refine Below.alloc ?_ (by first | omega | (simp; omega) | simp) _) | (refine Below.trans ?_ (Below.mono (by assumption) (by first | omega | (simp; omega) | simp))))))).mono ?_
    rintro x w3 ⟨rfl, b3⟩
    have hbel : Below w.heap.size w w3 := (by repeat (first | exact Below.refl _ _ | assumption | refine below_drewN ?_ _ | refine Below.drew ?_ | (refine Below.setCell ?_ (by first | omega | (simp; omega) | simp) _) | (refine Below.alloc ?_ (by first | omega | (simp; omega) | simp) _) | (refine Below.trans ?_ (Below.mono (by assumption) (by first | omega | (simp; omega) | simp)))))
    go_wp2_with fail
    go_ret
    exact ⟨hbel, _, rfl, OwnL.nil _ _ _ _ _⟩
end Go.Proofs.Ytbiakolkcikeiaa
