/- Progress: the walk of ProgressStays. -/
import Derived.Test.YtbholbjegfnpdaaPo
namespace Go.Proofs.Ytbholbjegfnpdaa
open Go.RowKit Go.Maps
set_option linter.unusedVariables false
set_option linter.unusedSimpArgs false

set_option maxRecDepth 100000 in
set_option maxHeartbeats 4000000 in
theorem pstays_no (ops : List TOp) (cap : Nat) (ao : Option Addr) (v1 v2 : Value) (w : World) (hx : SlA w.heap.size 7 (ROp w.heap.size) w ao cap ops) (hok : (gcheck ops).2 ≠ 0) :
    Calls Try.prog 3 #[.agg #[.slice ao ops.length cap], v1, v2] w fun e w' => e = .returned (.bool true) ∧ Below w.heap.size w w' := by
  have hN := fun W hb => new_no ops cap ao W (imp_ops2 hx hb) hok
  obtain ⟨n, hn⟩ : ∃ n, n = ops.length := ⟨_, rfl⟩
  rw [← hn] at hN ⊢
  replace hN := Lib.hid hN
  clear hn hx hok
  go_enter Try.func3, Try.ntmps3
  go_wp2_with fail
  refine (pknown_any _).mono ?_
  rintro e w1 ⟨rfl, hb1⟩
  have hd1 : Hd [(w.heap.size, .slice ao n cap, 24)] w1 := ((Hd.nil w).alloc (.slice ao n cap) 24).below hb1 (Nat.le_refl _)
  have hbel : Below w.heap.size w w1 := ((Below.refl w.heap.size w).alloc (Nat.le_refl _) (.cells #[.slice ao n cap] 24)).trans (hb1.mono (by simp))
  clear hb1
  have cg := hd1.cell (b := w.heap.size) (v := .slice ao n cap) (T := 24) (by simp)
  dsimp only
  go_wp2_with fail
  refine (hN.out _ hbel).mono ?_
  rintro e w2 ⟨rfl, hb2⟩
  have hbel2 := hbel.trans (hb2.mono hbel.size)
  dsimp only
  go_wp2_with fail
  go_ret
  exact ⟨rfl, hbel2⟩

theorem ep_ok (q : Int) : ∃ e : Nat, e < 4 ∧ wrap64 ((IntKind.u64.wrap q).tmod 4) = (e : Int) := by
  have h0 : 0 ≤ IntKind.u64.wrap q := by
    show 0 ≤ q % 18446744073709551616
    omega
  generalize IntKind.u64.wrap q = u at h0
  have h1 : u.tmod 4 = u % 4 := Int.tmod_eq_emod_of_nonneg h0
  rw [h1]
  have h2 : 0 ≤ u % 4 ∧ u % 4 < 4 := by omega
  generalize u % 4 = t at h2
  rw [IntWalk.wrap64_in t (by omega)]
  exact ⟨t.toNat, by omega, by omega⟩
/-- A row of one count, new memory. -/
theorem one_count {w : World} {s : TStamp} {k : Int} (hs : wfS s) (hk : (Lit.int .i64 k).wf = true) : SlA (w.alloc (.cells (encK ⟨s, k⟩).toArray 40)).heap.size 4 (RCount (w.alloc (.cells (encK ⟨s, k⟩).toArray 40)).heap.size) (w.alloc (.cells (encK ⟨s, k⟩).toArray 40)) (some ⟨w.heap.size, 0, none⟩) 1 [⟨s, k⟩] := by
  have hB := Blk.new w (encK ⟨s, k⟩).toArray 40
  refine SlA.of_blk hB hB.lt (Nat.le_refl 1) (by unfold maxLen; omega) ?_
  intro i hi
  match i, hi with
  | 0, _ => exact ⟨encK ⟨s, k⟩, rfl, fun j hj => (match j, hj with | 0, _ | 1, _ | 2, _ | 3, _ => rfl), rfl, hs.1, hs.2.1, hs.2.2, hk⟩

set_option maxRecDepth 100000 in
set_option maxHeartbeats 4000000 in
theorem pstays_ok (ops : List TOp) (cap : Nat) (ao : Option Addr) (ep : List Int) (a1 : Option Addr) (c1 : Nat) (mv : List TMillracelaw18Move) (a2 : Option Addr) (c2 : Nat) (w : World) (hx : SlA w.heap.size 7 (ROp w.heap.size) w ao cap ops) (he : SlA w.heap.size 1 (RI .i64) w a1 c1 ep) (hmv : SlA w.heap.size 2 (RMillracelaw18Move w.heap.size) w a2 c2 mv) (hok : (gcheck ops).2 = 0) (hzi : ∀ o ∈ ops, o.fIn.length * 8 ≤ 140737488355328) :
    Calls Try.prog 3 #[.agg #[.slice ao ops.length cap], .slice a1 ep.length c1, .slice a2 mv.length c2] w fun e w' => e = .returned (.bool true) ∧ Below w.heap.size w w' := by
  obtain ⟨jK, hiK, hK0, hK1, hK2⟩ := info_parts infoK
  obtain ⟨jF, hiF, hF0, hF1, hF2⟩ := info_parts infoF
  obtain ⟨jS, hiS, hS0, hS1, hS2⟩ := info_parts infoS
  have hN := fun W hb => new_ok ops ao cap W (imp_ops2 hx hb) hok hzi
  have hmost := (okG_of_check hok).most
  have hpos := (okG_of_check hok).pos
  obtain ⟨n, hn⟩ : ∃ n, n = ops.length := ⟨_, rfl⟩
  rw [← hn] at hN hmost hpos ⊢
  obtain ⟨m, hm⟩ : ∃ m, m = ep.length := ⟨_, rfl⟩
  have hlen := he.len
  rw [← hm] at hlen ⊢
  replace hm := Lib.hid hm
  obtain ⟨m2, hm2⟩ : ∃ m2, m2 = mv.length := ⟨_, rfl⟩
  have hlen2 := hmv.len
  rw [← hm2] at hlen2 ⊢
  replace hm2 := Lib.hid hm2
  replace hN := Lib.hid hN
  replace hn := Lib.hid hn
  go_enter Try.func3, Try.ntmps3
  go_wp2_with fail
  refine (pknown_any _).mono ?_
  rintro e w1 ⟨rfl, hb1⟩
  have hA1 : Blk w1 w.heap.size #[.slice ao n cap] 24 := (Blk.new w _ _).below hb1 (by simp)
  have hbel : Below w.heap.size w w1 := ((Below.refl w.heap.size w).alloc (Nat.le_refl _) (.cells #[.slice ao n cap] 24)).trans (hb1.mono (by simp))
  clear hb1
  have cg := hA1.cellAt (i := 0) (v := .slice ao n cap) rfl
  dsimp only
  go_wp2_with fail
  refine (hN.out _ hbel).mono ?_
  rintro e w2 ⟨hb2, tb, x, rfl, hT⟩
  have hC : Cm w w2 w1.heap.size tb w2.heap.size x ops (.slice ao n cap) [] [] (.slice none 0 0) :=
    ⟨⟨[], hT, Told.nil⟩, OwnL.nil _ _ _ _ _, hT.blk.lt, hT.map.lt, (hA1.below hb2 hA1.lt).lt, Nat.le_refl _, hA1.below hb2 hA1.lt, hbel.trans (hb2.mono hbel.size), Nat.lt_of_lt_of_le hA1.lt hT.bmb⟩
  obtain ⟨U, hU⟩ : ∃ U, U = w2.heap.size := ⟨_, rfl⟩
  rw [← hU] at hC
  replace hU := Lib.hid hU
  clear hT hb2 hA1 hbel cg hN
  dsimp only
  go_upto_block 0 with fail
  go_cut [9] from 10 (fun x9 wx => ∃ A : List TStamp, A.length ≤ 6 ∧ Cm w wx w1.heap.size tb U x ops (.slice ao n cap) A A x9 ∧ (∀ a ∈ A, goodS ops a.fLoc a.fT.fEpoch a.fT.fRound = true ∧ wfS a))
  case first =>
    --<L1
    as_aux_lemma =>
      go_wp2_with fail
      go_loopw [9, 10] (fun x9 x10 wr => ∃ (i : Nat) (A : List TStamp), i ≤ m ∧ i ≤ 6 ∧ x10 = .int .i64 i ∧ A.length = i ∧ Cm w wr w1.heap.size tb U x ops (.slice ao n cap) A A x9 ∧ (∀ a ∈ A, goodS ops a.fLoc a.fT.fEpoch a.fT.fRound = true ∧ wfS a)) (fun _ x10 _ => 6 - (intOf x10).toNat)
      case atStart => exact ⟨0, [], Nat.zero_le _, Nat.zero_le _, rfl, rfl, hC, by simp⟩
      case round =>
        clear hC
        obtain ⟨i, A, him, hi6, rfl, hAl, hC, hAg⟩ := hrel
        by_cases hlt : i < m ∧ i < 6
        · have hi1 := hlt.1
          have hi2 := hlt.2
          have d1 : decide ((i : Int) < (m : Int)) = true := by simp; omega
          have d2 : decide ((i : Int) < 6) = true := by simp; omega
          have hix : i < ep.length := by rw [← hm.out]; exact hi1
          obtain ⟨b2, off2, rfl, hb2l, _⟩ := he.addr (by omega)
          obtain ⟨q, hq⟩ : ∃ q, ep[i] = q := ⟨_, rfl⟩
          have e0 := (in_at (in_imp he hC.bel) hix hq).1
          obtain ⟨e4, he4, hwe⟩ := ep_ok q
          have hb2w : b2 < wr.heap.size := Nat.lt_of_lt_of_le hb2l hC.bel.size
          obtain ⟨av, cv, hv9, _, _, _⟩ := hC.own.slice
          rw [hAl] at hv9
          subst hv9
          have hmz : x.mb < wr.heap.size := by obtain ⟨_, h, _⟩ := hC.tr; exact h.map.lt
          clear hlt hq
          go_upto_region 11 with fail
          rw [hwe]
          have hb5 : Below wr.heap.size wr (wr.alloc (.cells #[.int .i64 0, .int .i64 e4, .int .i64 0] 37)) := (Below.refl _ _).alloc (Nat.le_refl _) _
          have hB5 := Blk.new wr #[.int .i64 0, .int .i64 e4, .int .i64 0] 37
          have hC5 := hC.below hb5
          obtain ⟨z, hz⟩ : ∃ z, z = wr.heap.size := ⟨_, rfl⟩
          rw [← hz] at hB5 ⊢
          generalize wr.alloc (.cells #[.int .i64 0, .int .i64 e4, .int .i64 0] 37) = w5 at hb5 hB5 hC5 ⊢
          have hz5 := hb5.size
          have hzm : x.mb < z := by rw [hz]; exact hmz
          clear hC hb5 hz e0
          have s0 := hB5.cellAt (i := 0) (v := .int .i64 0) rfl
          have s1 := hB5.cellAt (i := 1) (v := .int .i64 e4) rfl
          have s2 := hB5.cellAt (i := 2) (v := .int .i64 0) rfl
          obtain ⟨s, hs⟩ : ∃ s : TStamp, s = ⟨0, ⟨e4, 0⟩⟩ := ⟨_, rfl⟩
          have hgs : goodS ops s.fLoc s.fT.fEpoch s.fT.fRound = true := by
            rw [hs]
            unfold goodS goodT
            have := hn.out
            simp
            omega
          have hws : wfS s := by
            rw [hs]
            refine ⟨rfl, ?_, rfl⟩
            have := wrap64_wf (e4 : Int)
            rwa [IntWalk.wrap64_in _ (by omega)] at this
          have hcall := upd_told (B' := A ++ [s]) (hC5.below ((Below.refl w5.heap.size w5).alloc (Nat.le_refl _) (.cells (encK ⟨s, 1⟩).toArray 40))) [⟨s, 1⟩] _ 1 (one_count hws rfl) (by simp) (by omega) (by simp; omega)
            (fun t => by rw [cntA_append, totC_cons, cntA_cons]; simp [totC, cntA]) (by simp [okC, hgs])
          rw [show (encK ⟨s, 1⟩).toArray = #[.int .i64 0, .int .i64 e4, .int .i64 0, .int .i64 1] by rw [hs]; rfl] at hcall
          replace hcall := Lib.hid hcall
          replace hs := Lib.hid hs
          go_wp2_with fail
          refine hcall.out.mono ?_
          rintro e w6 ⟨rfl, hC6, hc6⟩
          have hB6 := (hB5.alloc (.cells #[.int .i64 0, .int .i64 e4, .int .i64 0, .int .i64 1] 40)).chg hc6 (fun e => by omega)
          have hz6 : w5.heap.size < w6.heap.size := by have := hc6.size; simp at this; omega
          have s0 := hB6.cellAt (i := 0) (v := .int .i64 0) rfl
          have s1 := hB6.cellAt (i := 1) (v := .int .i64 e4) rfl
          have s2 := hB6.cellAt (i := 2) (v := .int .i64 0) rfl
          have hse : (#[.int .i64 0, .int .i64 e4, .int .i64 0] : Array Value) = (encS s).toArray := by rw [hs.out]; rfl
          replace hse := Lib.hid hse
          clear hcall hc6 hB6 hB5 hC5
          dsimp only
          go_wp2_with (at_builtin; refine Shut.out ?kaa)
          unfold Shut
          rw [hse.out]
          refine wpList_app1 rfl _ _ 32 rfl Try.underlying32 hiS hS0 hS1 hS2 rfl (by decide) (enc := encS) s rfl hC6.own rfl (encS_len _) (encS_one _) (by rw [hAl]; omega) (by rw [hAl]; unfold maxLen; omega) hC6.us ?_
          intro a3 cp3 w7 hown7 hb7 hgr7
          have hgc : Chg (fun k => U ≤ k) w6 w7 := (Chg.of_grown hgr7).mono (fun k _ e => (hC6.own.lt k e).1)
          have hC7 := hC6.grow hgc (fun _ h => h) hown7
          have hAg7 : ∀ a ∈ A ++ [s], goodS ops a.fLoc a.fT.fEpoch a.fT.fRound = true ∧ wfS a := fun a ha => by
            rcases List.mem_append.1 ha with h1 | h1
            · exact hAg a h1
            · obtain rfl := List.mem_singleton.1 h1
              exact ⟨hgs, hws⟩
          have hAl7 : (A ++ [s]).length = i + 1 := by simp [hAl]
          rw [hAl] at hC7 ⊢
          replace hAl7 := Lib.hid hAl7
          replace hAl := Lib.hid hAl
          replace hAg7 := Lib.hid hAg7
          clear hgc hown7 hb7 hgr7 hC6 hAg s0 s1 s2
          go_wp2_with fail
          go_roundw
          case rel => exact ⟨i + 1, A ++ [s], by omega, by omega, by go_num, hAl7.out, hC7, hAg7.out⟩
          case measure => simp [intOf]; omega
        · have hcase : i = m ∨ (i < m ∧ i = 6) := by omega
          replace hAg := Lib.hid hAg
          clear hlt
          rcases hcase with rfl | ⟨d1, rfl⟩
          all_goals
            go_wp2_with fail
            go_meet
            case rel => exact ⟨A, by omega, hC, hAg.out⟩
    -->L1
  case rest =>
    clear hC he hm hlen
    obtain ⟨A, hA6, hC, hAg⟩ := hcut
    obtain ⟨w3, hw3⟩ : ∃ w3, w3 = wc := ⟨_, rfl⟩
    rw [← hw3] at hC ⊢
    clear hw3
    replace hAg := Lib.hid hAg
    go_upto_block 2 with fail
    go_cut [9] from 10 (fun x9 wx => ∃ A : List TStamp, A.length ≤ 30 ∧ Cm w wx w1.heap.size tb U x ops (.slice ao n cap) A A x9 ∧ (∀ a ∈ A, goodS ops a.fLoc a.fT.fEpoch a.fT.fRound = true ∧ wfS a))
    case first =>
      --<L2
      as_aux_lemma =>
        go_wp2_with fail
        go_loopw [9, 12] (fun x9 x12 wr => ∃ (i : Nat) (A : List TStamp), i ≤ m2 ∧ i ≤ 60 ∧ x12 = .int .i64 i ∧ A.length ≤ 30 ∧ Cm w wr w1.heap.size tb U x ops (.slice ao n cap) A A x9 ∧ (∀ a ∈ A, goodS ops a.fLoc a.fT.fEpoch a.fT.fRound = true ∧ wfS a)) (fun _ x12 _ => 60 - (intOf x12).toNat)
        case atStart => exact ⟨0, A, Nat.zero_le _, Nat.zero_le _, rfl, by omega, hC, hAg.out⟩
        case round =>
          clear hC hAg hA6
          obtain ⟨i, A, him, hi6, rfl, hA3, hC, hAg⟩ := hrel
          obtain ⟨nA, hnA⟩ : ∃ nA, nA = A.length := ⟨_, rfl⟩
          obtain ⟨av, cv, hv9, hsA⟩ := hC.own.sla (E := RStamp wr.heap.size) encS_len (fun x hx => ⟨rfl, (hAg x hx).2⟩)
          rw [← hnA] at hv9 hA3
          subst hv9
          by_cases hlt : i < m2 ∧ i < 60 ∧ 0 < nA
          · have hi1 := hlt.1
            have hi2 := hlt.2.1
            have hi3 := hlt.2.2
            have d1 : decide ((i : Int) < (m2 : Int)) = true := by simp; omega
            have d2 : decide ((i : Int) < 60) = true := by simp; omega
            have d3 : decide (0 < (nA : Int)) = true := by simp; omega
            have hix : i < mv.length := by rw [← hm2.out]; exact hi1
            obtain ⟨b2, off2, rfl, hb2l, _⟩ := hmv.addr (by omega)
            obtain ⟨q, hq⟩ : ∃ q, mv[i] = q := ⟨_, rfl⟩
            obtain ⟨f0, f1, _, _⟩ := RMillracelaw18Move.at (hmv.imp hC.bel (Nat.le_refl _) (fun _ _ _ h => h.imp hC.bel (Nat.le_refl _))) hix hq
            obtain ⟨k, hk, hwk⟩ := mod_ok q.fI nA hi3 (by omega)
            have hun : IntKind.u64.wrap (nA : Int) = nA := by show (nA : Int) % 18446744073709551616 = nA; omega
            have hkA : k < A.length := by rw [← hnA]; exact hk
            obtain ⟨b3, off3, rfl, hb3l, _⟩ := hsA.addr (by omega)
            obtain ⟨s, hs⟩ : ∃ s, A[k] = s := ⟨_, rfl⟩
            obtain ⟨g0, g1, g2, hws⟩ := RStamp.at hsA hkA hs
            replace hnA := Lib.hid hnA
            clear hlt hq
            go_upto_region 18 with fail
            rw [hwk]
            go_upto_region 19 with fail
            refine Code.wp_world ?_
            intro w5 hw5
            have hb5 : Below wr.heap.size wr w5 := by rw [hw5]; exact (Below.refl _ _).alloc (Nat.le_refl _) _
            have hB5 : Blk w5 wr.heap.size #[.int .i64 s.fLoc, .int .i64 s.fT.fEpoch, .int .i64 s.fT.fRound] 37 := by rw [hw5]; exact Blk.new _ _ _
            have hC5 := hC.below hb5
            have hsA5 : SlA wr.heap.size 3 (RStamp wr.heap.size) w5 (some ⟨b3, off3, none⟩) cv A := imp_stamps hsA hb5
            have hm5 := (hmv.imp hC5.bel (Nat.le_refl _) (fun _ _ _ h => h.imp hC5.bel (Nat.le_refl _)))
            obtain ⟨z, hz⟩ : ∃ z, z = wr.heap.size := ⟨_, rfl⟩
            rw [← hz] at hB5 hsA5 hb3l ⊢
            have hUz : U ≤ z := by rw [hz]; exact hC.us
            clear hC hsA hw5 hb5 hm5 hz f0 f1 g0 g1 g2
            have cg := hC5.g.cellAt (i := 0) (v := .slice ao n cap) rfl
            have s0 := hB5.cellAt (i := 0) (v := .int .i64 s.fLoc) rfl
            have s1 := hB5.cellAt (i := 1) (v := .int .i64 s.fT.fEpoch) rfl
            have s2 := hB5.cellAt (i := 2) (v := .int .i64 s.fT.fRound) rfl
            have hNx := rnext_any ops cap ao s.fLoc s.fT.fEpoch s.fT.fRound w.heap.size w5 hC5.bel.size (imp_ops hx hC5.bel)
            rw [← hn.out] at hNx
            have hAgd := hAg A[k] (List.getElem_mem hkA)
            rw [hs] at hAgd
            have hnxw : ∀ x ∈ nextS ops s.fLoc s.fT.fEpoch s.fT.fRound, goodS ops x.fLoc x.fT.fEpoch x.fT.fRound = true ∧ wfS x := fun x hx => next_wf hok (by rw [← hn.out]; omega) hws hx
            have hnxm : ∀ x ∈ nextS ops s.fLoc s.fT.fEpoch s.fT.fRound, x ∈ nextS ops s.fLoc s.fT.fEpoch s.fT.fRound := fun _ h => h
            replace hnxm := Lib.hid hnxm
            generalize hnx : nextS ops s.fLoc s.fT.fEpoch s.fT.fRound = nx at hNx hnxw
            replace hnx := Lib.hid hnx
            go_wp2_with fail
            refine hNx.mono ?_
            rintro e w6 ⟨hb6, v6, rfl, hown6⟩
            obtain ⟨anx, cnx, rfl, hnxs⟩ := hown6.sla (E := RStamp w6.heap.size) encS_len (fun x hx => ⟨rfl, (hnxw x hx).2⟩)
            have hC6 := hC5.below hb6
            have hB6 := hB5.below hb6 hB5.lt
            have hsA6 := imp_stamps hsA5 (hb6.mono (by have := hB5.lt; omega))
            obtain ⟨nn, hnn⟩ : ∃ nn, nn = nx.length := ⟨_, rfl⟩
            have hnl := hnxs.len
            rw [← hnn] at hnl ⊢
            have hz6 : z < w6.heap.size := hB6.lt
            clear hNx hown6 hC5 hB5 hsA5 hb6 cg s0 s1 s2
            replace hnn := Lib.hid hnn
            have s0 := hB6.cellAt (i := 0) (v := .int .i64 s.fLoc) rfl
            have s1 := hB6.cellAt (i := 1) (v := .int .i64 s.fT.fEpoch) rfl
            have s2 := hB6.cellAt (i := 2) (v := .int .i64 s.fT.fRound) rfl
            dsimp only
            go_upto_region 21 with fail
            refine Code.wp_world ?_
            intro w7 hw7
            have hb7 : Below w6.heap.size w6 w7 := by rw [hw7]; exact (Below.refl _ _).alloc (Nat.le_refl _) _
            have hB7 : Blk w7 w6.heap.size (encK ⟨s, -1⟩).toArray 40 := by rw [hw7]; exact Blk.new _ _ _
            have hC7 := hC6.below hb7
            have hsA7 := imp_stamps hsA6 (hb7.mono (by omega))
            have hnx7 := imp_stamps hnxs hb7
            obtain ⟨z7, hz7⟩ : ∃ z7, z7 = w6.heap.size := ⟨_, rfl⟩
            rw [← hz7] at hB7 hnx7 ⊢
            have hK7 : OwnL encK w7 z7 40 4 (.slice (some ⟨z7, 0, none⟩) 1 1) (movC s []) := OwnL.of_blk (xs := movC s []) (cap := 1) hB7 (Nat.le_refl _) (Nat.le_refl 1) (by unfold maxLen; omega) rfl rfl rfl
            have hU7 := hC7.us
            have hzl : z7 < w7.heap.size := hB7.lt
            clear hC6 hsA6 hnxs hw7 hb7 hB7 hB6 s0 s1 s2
            have hzw7 : z < z7 := by omega
            have hUz7 : U ≤ z7 := by omega
            replace hz7 := Lib.hid hz7
            have hcv := hsA7.1
            rw [← hnA.out] at hcv
            have hcm : cv ≤ 9223372036854775807 := hsA7.2.1
            have hkc : k ≤ cv := by omega
            have hcz : ¬ (cv = 0) := by omega
            obtain ⟨k1, hk1e⟩ : ∃ k1, k1 = k + 1 := ⟨_, rfl⟩
            have hk1 : k1 ≤ nA := by omega
            have hk2 : k1 ≤ cv := by omega
            have hw1 : IntKind.i64.wrap ((k : Int) + 1) = (k1 : Int) := by rw [hk1e]; exact IntWalk.i64_in _ (by omega)
            obtain ⟨x8, hx8e⟩ : ∃ x8 : Option Addr, (if cv = k1 then some (⟨b3, off3, none⟩ : Addr) else some ⟨b3, off3 + k1 * 3, none⟩) = x8 := ⟨_, rfl⟩
            have hx8 : (x8 = some ⟨b3, off3 + k1 * 3, none⟩ ∧ cv - k1 = cv - k1) ∨ (cv = k1 ∧ cv - k1 = 0) := by
              by_cases h : cv = k1
              · exact .inr ⟨h, by omega⟩
              · rw [if_neg h] at hx8e
                exact .inl ⟨hx8e.symm, rfl⟩
            have hif1 : (0 : Int) ≤ (k1 : Int) ∧ (k1 : Int) ≤ (nA : Int) := ⟨by omega, by omega⟩
            have hif2 := hk1
            replace hif1 := Lib.hid hif1
            replace hif2 := Lib.hid hif2
            replace hx8 := Lib.hid hx8
            replace hx8e := Lib.hid hx8e
            replace hw1 := Lib.hid hw1
            replace hk1e := Lib.hid hk1e
            refine wp_region_tree (fun wx => True) 10 11 (by kernel_rfl) rfl (by kernel_rfl) (fun d _ _ _ _ h => by cases d <;> exact h) (trivial) (fun opz T hOps hT hTok hHeld => ?_)
            refine wpTree_world ?_
            intro wz hwz
            have b9 : Below w7.heap.size w7 wz := by rw [hwz]; exact (Below.refl _ _).drew
            clear hwz hHeld
            (refine wpTree_q 1 hTok hOps (by kernel_rfl) rfl rfl ⟨?_, ?_, ?_⟩; rotate_left; (focus (intro wx hSx; (try dsimp only at hSx); go_simp; (try with_reducible rfl))); (simp only [Act.put, List.setIfInBounds_toArray, List.set_cons_zero, List.set_cons_succ]))
            (refine wpTree_q 2 hTok hOps (by kernel_rfl) rfl rfl ⟨?_, ?_, ?_⟩; rotate_left; (focus (intro wx hSx; (try dsimp only at hSx); go_simp; (try with_reducible rfl))); (simp only [Act.put, List.setIfInBounds_toArray, List.set_cons_zero, List.set_cons_succ]))
            (refine wpTree_q 3 hTok hOps (by kernel_rfl) rfl rfl ⟨?_, ?_, ?_⟩; rotate_left; (focus (intro wx hSx; (try dsimp only at hSx); go_simp; (try with_reducible rfl))); (simp only [Act.put, List.setIfInBounds_toArray, List.set_cons_zero, List.set_cons_succ]))
            (refine wpTree_q 5 hTok hOps (by kernel_rfl) rfl rfl ⟨?_, ?_, ?_⟩; rotate_left; (focus (intro wx hSx; (try dsimp only at hSx); go_simp; (try with_reducible rfl))); (simp only [Act.put, List.setIfInBounds_toArray, List.set_cons_zero, List.set_cons_succ]))
            (refine wpTree_q 6 hTok hOps (by kernel_rfl) rfl rfl ⟨?_, ?_, ?_⟩; rotate_left; (focus (intro wx hSx; (try dsimp only at hSx); go_simp; (try with_reducible rfl))); (simp only [Act.put, List.setIfInBounds_toArray, List.set_cons_zero, List.set_cons_succ]))
            (refine wpTree_q 7 hTok hOps (by kernel_rfl) rfl rfl ⟨?_, ?_, ?_⟩; rotate_left; (focus (intro wx hSx; (try dsimp only at hSx); go_simp; (try with_reducible rfl))); (simp only [Act.put, List.setIfInBounds_toArray, List.set_cons_zero, List.set_cons_succ]))
            rw [hw1.out]
            refine wpTree_q 8 hTok hOps (by kernel_rfl) rfl rfl ⟨?_, ?_, ?_⟩
            rotate_left
            focus
              intro wx hSx
              (try dsimp only at hSx)
              go_simp
              (try simp only [Int.toNat_natCast, hx8e.out])
              first | rw [if_pos hif1.out] | rw [if_pos hif2.out] | rfl
            simp only [Act.put, List.setIfInBounds_toArray, List.set_cons_zero, List.set_cons_succ]
            have hlk : (A.take k).length = k := by rw [List.length_take]; omega
            have hld : (A.drop k1).length = nA - k1 := by rw [List.length_drop, ← hnA.out]
            have hdr := sla_drop hsA7 k1 (by rw [← hnA.out]; exact hk1) x8 (cv - k1) hx8.out
            have htk := sla_take hsA7 k
            obtain ⟨A0, hA0⟩ : ∃ A0, A0 = A.take k ++ A.drop k1 := ⟨_, rfl⟩
            refine wpTree_1 0 hOps (by kernel_rfl) (by decide) rfl (fun K' hK => ?_)
            go_simp
            refine hK.out _ _ trivial ?_
            clear hK K'
            try simp only [Act.put, List.setIfInBounds_toArray, List.set_cons_zero, List.set_cons_succ]
            refine wpTree_world ?_
            intro wy hwy
            have hE : Blk wy wz.heap.size #[] 37 := by rw [hwy]; exact Blk.new _ _ _
            have hzs := b9.size
            replace b9 : Below w7.heap.size w7 wy := b9.trans (by rw [hwy]; exact (Below.refl _ _).alloc hzs _)
            clear hwy
            have hsy := b9.size
            refine wpTree_1 4 hOps (by kernel_rfl) (by decide) rfl (fun K' hK => ?_)
            refine step_app_sla wy rfl _ _ 32 rfl Try.underlying32 hiS hS0 hS1 hS2 rfl (by decide) (enc := encS) (xs := []) (ys := A.take k) (B := z) (base := w7.heap.size) (ao := some ⟨b3, off3, none⟩) (cap := cv) rfl ?own ?hx ?sl encS_len encS_one ?h1 ?h2 ?h3 (fun v5 w8 hown8 hgr8 => ?nx)
            case own => exact own_empty' hE (by omega)
            case hx => rw [hlk]; rfl
            case sl => exact (imp_stamps htk (b9.mono (by omega))).imp (Below.refl _ _) (Nat.le_refl _) (fun _ _ _ h => h.1)
            case h1 => simp only [List.length_nil]; unfold maxLen; omega
            case h2 => simp only [List.length_nil]; omega
            case h3 => omega
            case nx =>
            rw [List.nil_append] at hown8
            replace b9 := Below.grown b9 hgr8 hsy (fun g hg => by have e : some wz.heap.size = some g := hg; simp at e; omega)
            have hsy8 := b9.size
            refine hK.out _ _ trivial ?_
            clear hK K' hgr8 hE
            try simp only [Act.put, List.setIfInBounds_toArray, List.set_cons_zero, List.set_cons_succ]
            have hown8l := hown8.lt
            refine wpTree_1 9 hOps (by kernel_rfl) (by decide) rfl (fun K' hK => ?_)
            refine step_app_sla w8 rfl _ _ 32 rfl Try.underlying32 hiS hS0 hS1 hS2 rfl (by decide) (enc := encS) (xs := A.take k) (ys := A.drop k1) (B := z) (base := w7.heap.size) (ao := x8) (cap := cv - k1) rfl hown8 ?hx ?sl encS_len encS_one ?h1 ?h2 ?h3 (fun v6 w9 hown9 hgr9 => ?nx)
            case hx => rw [hld]; rfl
            case sl => exact (imp_stamps hdr (b9.mono (by omega))).imp (Below.refl _ _) (Nat.le_refl _) (fun _ _ _ h => h.1)
            case h1 => unfold maxLen; omega
            case h2 => omega
            case h3 => omega
            case nx =>
            replace b9 := Below.grown b9 hgr9 hsy8 (fun g hg => (hown8l g hg).1)
            refine hK.out _ _ trivial ?_
            clear hK K' hgr9 hown8 hown8l htk hdr
            try simp only [Act.put, List.setIfInBounds_toArray, List.set_cons_zero, List.set_cons_succ]
            refine wpTree_nil hOps (by kernel_rfl) ?_
            refine hT.out _ _ ?_
            simp only [List.drop_succ_cons, List.drop_zero]
            rw [← hA0] at hown9
            have hA0l : A0.length + 1 = nA := by rw [hA0, List.length_append, hlk, hld]; have := hk1e.out; omega
            have hA0g : ∀ a ∈ A0, goodS ops a.fLoc a.fT.fEpoch a.fT.fRound = true ∧ wfS a := fun a ha => by
              rw [hA0] at ha
              rcases List.mem_append.1 ha with h | h
              · exact hAg a (List.mem_of_mem_take h)
              · exact hAg a (List.mem_of_mem_drop h)
            have hAll : ∀ a ∈ A0, a ∈ A := fun a ha => by
              rw [hA0] at ha
              rcases List.mem_append.1 ha with h | h
              · exact List.mem_of_mem_take h
              · exact List.mem_of_mem_drop h
            have hsm : s ∈ A := by rw [← hs]; exact List.getElem_mem hkA
            have htot : ∀ (B : List TStamp) (t : TStamp), cntA A t + totC (movC s B) t = cntA (A0 ++ B) t := fun B t => by rw [hA0, ← hs, hk1e.out]; exact mov_tot hkA B t
            have hown9z := hown9.base_le (base' := z7) (by omega)
            have hC9 := hC7.grow ((Chg.of_below b9).mono (fun k _ h => Nat.le_trans hUz7 (Nat.le_trans (Nat.le_of_lt hzl) h))) (fun _ h => h) (hown9z.base_le hUz7)
            have hK9 := hK7.below b9 (Nat.le_refl _)
            have hnx9 := imp_stamps hnx7 (b9.mono (Nat.le_of_lt hzl))
            have hz9 : z7 < w9.heap.size := Nat.lt_of_lt_of_le hzl b9.size
            replace hA0g := Lib.hid hA0g
            replace hAll := Lib.hid hAll
            replace htot := Lib.hid htot
            replace hsm := Lib.hid hsm
            replace hnxw := Lib.hid hnxw
            replace hAg := Lib.hid hAg
            replace hAgd := Lib.hid hAgd
            replace hws := Lib.hid hws
            replace hA0l := Lib.hid hA0l
            clear hOps hT hTok hown9 hC7 hK7 hnx7 hsA7 b9 hcv hcm hkc hcz hk1 hk2 hk1e hw1 hx8 hx8e hlk hld hA0 hs hkA hwk hun hzs hsy hsy8 hU7 hzl hk hzw7 hz7 hz6 hUz hb3l
            go_upto_block 4 with fail
            go_cut [9, 16, 17] from 63 to 188 (fun x9 x16 x17 wx => ∃ B : List TStamp, (∀ a ∈ B, a ∈ nx) ∧ (A0 ++ B).length ≤ 30 ∧ Below z7 w9 wx ∧ OwnL encS wx z7 37 3 x9 (A0 ++ B) ∧ OwnL encK wx z7 40 4 x16 (movC s B))
            case first =>
              --<L3
              as_aux_lemma =>
                go_wp2_with fail
                go_loopw [9, 16, 17] (fun x9 x16 x17 wr => ∃ (j : Nat) (B : List TStamp), j ≤ nn ∧ x17 = .int .i64 j ∧ (∀ a ∈ B, a ∈ nx) ∧ (A0 ++ B).length ≤ 30 ∧ Below z7 w9 wr ∧ OwnL encS wr z7 37 3 x9 (A0 ++ B) ∧ OwnL encK wr z7 40 4 x16 (movC s B)) (fun _ _ x17 _ => nn - (intOf x17).toNat)
                case atStart => exact ⟨0, [], Nat.zero_le _, rfl, by simp, by have := hA0l.out; simp; omega, Below.refl _ _, by rw [List.append_nil]; exact hown9z, hK9⟩
                case round =>
                  obtain ⟨j, B, hjn, rfl, hBm, hBl, hbr, hoS, hoK⟩ := hrel
                  obtain ⟨nB, hnB⟩ : ∃ nB, nB = (A0 ++ B).length := ⟨_, rfl⟩
                  obtain ⟨nK, hnK⟩ : ∃ nK, nK = (movC s B).length := ⟨_, rfl⟩
                  obtain ⟨aS, cS, hvS, _, _, _⟩ := hoS.slice
                  obtain ⟨aK, cK, hvK, _, _, _⟩ := hoK.slice
                  rw [← hnB] at hvS hBl
                  rw [← hnK] at hvK
                  subst hvS hvK
                  have hbel := hC9.bel.trans (hbr.mono (by have := hC9.ug; omega))
                  have hszr := hbr.size
                  by_cases hlt : j < nn ∧ nB < 30
                  · have hj1 := hlt.1
                    have hj2 := hlt.2
                    have d1 : decide ((j : Int) < (nn : Int)) = true := by simp; omega
                    have d2 : decide ((nB : Int) < 30) = true := by simp; omega
                    obtain ⟨q2, hq2⟩ : ∃ q2, mv[i] = q2 := ⟨_, rfl⟩
                    obtain ⟨f0, f1, _, _⟩ := RMillracelaw18Move.at (hmv.imp hbel (Nat.le_refl _) (fun _ _ _ h => h.imp hbel (Nat.le_refl _))) hix hq2
                    have hjx : j < nx.length := by rw [← hnn.out]; exact hj1
                    have hnxr := imp_stamps hnx9 hbr
                    obtain ⟨b4, off4, rfl, hb4l, _⟩ := hnxr.addr (by omega)
                    obtain ⟨y, hy⟩ : ∃ y, nx[j] = y := ⟨_, rfl⟩
                    obtain ⟨g0, g1, g2, hwy⟩ := RStamp.at hnxr hjx hy
                    have hym : y ∈ nx := by rw [← hy]; exact List.getElem_mem hjx
                    replace hy := Lib.hid hy
                    clear hlt hq2 hnxr
                    have hse : (#[.int .i64 y.fLoc, .int .i64 y.fT.fEpoch, .int .i64 y.fT.fRound, .int .i64 1] : Array Value) = (encK ⟨y, 1⟩).toArray := rfl
                    have hsf : (#[.int .i64 y.fLoc, .int .i64 y.fT.fEpoch, .int .i64 y.fT.fRound] : Array Value) = (encS y).toArray := rfl
                    replace hse := Lib.hid hse
                    replace hsf := Lib.hid hsf
                    have hnKl : nK ≤ nB + 1 := by have := hnK; have h2 := hnB; rw [mov_len] at this; rw [List.length_append] at h2; omega
                    have hBm2 : ∀ a ∈ B ++ [y], a ∈ nx := fun a ha => by
                      rcases List.mem_append.1 ha with h | h
                      · exact hBm a h
                      · obtain rfl := List.mem_singleton.1 h
                        exact hym
                    have hBl2 : (A0 ++ (B ++ [y])).length ≤ 30 := by rw [← List.append_assoc, List.length_append, ← hnB]; simp; omega
                    rw [hnB] at hBl
                    replace hBl := Lib.hid hBl
                    replace hBm := Lib.hid hBm
                    replace hBm2 := Lib.hid hBm2
                    replace hBl2 := Lib.hid hBl2
                    replace hnB := Lib.hid hnB
                    replace hnK := Lib.hid hnK
                    clear hwy hym
                    go_upto_region 26 with fail
                    · go_wp2_with (at_builtin; refine Shut.out ?kap)
                      unfold Shut
                      rw [hse.out]
                      refine wpList_app1 rfl _ _ 41 rfl Try.underlying41 hiK hK0 hK1 hK2 rfl (by decide) (enc := encK) ⟨y, 1⟩ rfl hoK rfl (encK_len _) (encK_one _) (by rw [← hnK.out]; omega) (by rw [← hnK.out]; unfold maxLen; omega) (by omega) ?_
                      intro a3 cp3 w11 hoK1 hb11 hgr11
                      have hoS1 := hoS.chg (Chg.of_grown hgr11) (own_apart hoS hoK (by decide))
                      have g0' := (imp_stamps hnx9 (hbr.trans hb11))
                      rw [← mov_snoc, ← hnK.out] at hoK1
                      rw [← hnK.out]
                      obtain ⟨g0, g1, g2, _⟩ := RStamp.at g0' (by rw [← hnn.out]; exact hj1) hy.out
                      have hbr1 := hbr.trans hb11
                      have hsz1 := hbr1.size
                      clear hgr11 g0' hoK hoS hb11 hbr hbel f0 f1
                      go_wp2_with (at_builtin; refine Shut.out ?kaq)
                      unfold Shut
                      rw [hsf.out]
                      refine wpList_app1 rfl _ _ 32 rfl Try.underlying32 hiS hS0 hS1 hS2 rfl (by decide) (enc := encS) y rfl hoS1 rfl (encS_len _) (encS_one _) (by rw [← hnB.out]; omega) (by rw [← hnB.out]; unfold maxLen; omega) (by omega) ?_
                      intro a4 cp4 w12 hoS2 hb12 hgr12
                      have hoK2 := hoK1.chg (Chg.of_grown hgr12) (own_apart hoK1 hoS1 (by decide))
                      have hbr2 := hbr1.trans hb12
                      rw [List.append_assoc, ← hnB.out] at hoS2
                      rw [← hnB.out]
                      clear hgr12 hoK1 hoS1 hb12 hbr1 g0 g1 g2
                      go_wp2_with fail
                      go_roundw
                      case rel => exact ⟨j + 1, B ++ [y], by omega, by go_num, hBm2.out, hBl2.out, hbr2, hoS2, hoK2⟩
                      case measure => simp [intOf]; omega
                    · go_roundw
                      case rel => exact ⟨j + 1, B, by omega, by go_num, hBm.out, hBl.out, hbr, hoS, hoK⟩
                      case measure => simp [intOf]; omega
                  · have hcase : j = nn ∨ (j < nn ∧ nB = 30) := by omega
                    rw [hnB] at hBl
                    replace hBl := Lib.hid hBl
                    replace hBm := Lib.hid hBm
                    replace hnB := Lib.hid hnB
                    replace hnK := Lib.hid hnK
                    obtain ⟨vS, hvS⟩ : ∃ vS, vS = Value.slice aS nB cS := ⟨_, rfl⟩
                    obtain ⟨vK, hvK⟩ : ∃ vK, vK = Value.slice aK nK cK := ⟨_, rfl⟩
                    rw [← hvS] at hoS
                    rw [← hvK] at hoK
                    replace hvS := Lib.hid hvS
                    replace hvK := Lib.hid hvK
                    clear hlt
                    rcases hcase with rfl | ⟨d1, rfl⟩
                    all_goals
                      go_wp2_with fail
                      go_meet
                      case rel => exact ⟨B, hBm.out, hBl.out, hbr, by rw [← hvS.out]; exact hoS, by rw [← hvK.out]; exact hoK⟩
              -->L3
            case rest =>
              --<L4
              as_aux_lemma =>
                obtain ⟨B, hBm, hBl, hbr, hoS, hoK⟩ := hcut
                obtain ⟨w10, hw10⟩ : ∃ w10, w10 = wc := ⟨_, rfl⟩
                rw [← hw10] at hbr hoS hoK ⊢
                clear hw10
                have hC10 := hC9.grow ((Chg.of_below hbr).mono (fun k _ h => Nat.le_trans hUz7 h)) (fun _ h => h) (hoS.base_le hUz7)
                have hAg' : ∀ a ∈ A0 ++ B, goodS ops a.fLoc a.fT.fEpoch a.fT.fRound = true ∧ wfS a := fun a ha => by
                  rcases List.mem_append.1 ha with h | h
                  · exact hA0g.out a h
                  · exact hnxw.out a (hBm a h)
                have hfo : ∀ (loc : Int) (f f' : List TTime), IsFront (timesS ops loc A) f → IsFront (timesS ops loc (A0 ++ B)) f' → ∀ x ∈ f', coversT f x = true := fun loc f f' h1 h2 => front_on h1 h2 hsm.out (fun a ha => by
                  rcases List.mem_append.1 ha with h | h
                  · exact .inl (hAll.out a h)
                  · exact .inr (by rw [hnx.out]; exact hBm a h))
                obtain ⟨aK, cK, hvK, hlK⟩ := mov_sla hoK hws.out (fun a ha => (hnxw.out a (hBm a ha)).2)
                have hokl : (movC s B).all (okC ops) = true := mov_ok hAgd.out.1 (fun a ha => (hnxw.out a (hBm a ha)).1)
                have htt := htot.out B
                have hA1k : A.length ≤ 1000 := by rw [← hnA.out]; omega
                have hA2k : (A0 ++ B).length ≤ 1000 := by omega
                have hl1k : (movC s B).length ≤ 1000 := by rw [mov_len]; rw [List.length_append] at hBl; omega
                obtain ⟨l, hl⟩ : ∃ l, l = movC s B := ⟨_, rfl⟩
                rw [← hl] at hvK hlK hokl htt hl1k
                obtain ⟨nl, hnl⟩ : ∃ nl, nl = l.length := ⟨_, rfl⟩
                rw [← hnl] at hvK hl1k
                obtain ⟨A', hA'⟩ : ∃ A', A' = A0 ++ B := ⟨_, rfl⟩
                rw [← hA'] at hC10 hAg' hfo htt hA2k hBl
                have hUp := fun W hb => upd_told (B' := A') (hC10.below hb) l aK cK (hlK.imp hb (Below.size hb) (fun _ _ _ h => RCount.imp h hb (Below.size hb))) (by rw [← hnl]; exact hl1k) hA1k hA2k htt hokl (wr := W)
                rw [← hnl] at hUp
                subst hvK
                replace hUp := Lib.hid hUp
                replace hfo := Lib.hid hfo
                replace hAg' := Lib.hid hAg'
                replace hBl := Lib.hid hBl
                replace hA1k := Lib.hid hA1k
                replace hA2k := Lib.hid hA2k
                have hmU : x.mb < w10.heap.size := Nat.lt_of_lt_of_le hC10.um hC10.us
                clear hoS hoK hbr hBm hlK hokl htt hl1k hl hnl hA' hC9 hK9 hnx9 hown9z hz9 hnxw hnx hnxm hAg hAgd hws hsm htot hAll hA0g hA0l hnn
                go_wp2_with fail
                go_loopw [18, 19] (fun x18 x19 wr => ∃ (j : Nat) (ws : List FRow), j ≤ n ∧ x19 = .int .i64 j ∧ Below w10.heap.size w10 wr ∧ WasL wr w10.heap.size x18 ops A ws ∧ ws.length = j) (fun _ x19 _ => n - (intOf x19).toNat)
                case atStart => exact ⟨0, [], Nat.zero_le _, rfl, Below.refl _ _, ⟨OwnL.nil _ _ _ _ _, by simp, fun j h => by simp at h⟩, rfl⟩
                case round =>
                  obtain ⟨j, ws, hjn, rfl, hbr, hW, hwl⟩ := hrel
                  have cg := (hC10.below hbr).g.cellAt (i := 0) (v := .slice ao n cap) rfl
                  obtain ⟨aw, cw, hvw, _, _, _⟩ := hW.own.slice
                  rw [hwl] at hvw
                  subst hvw
                  have hszr := hbr.size
                  by_cases hj : j < n
                  · go_wp2_with fail
                    refine (front_told (hC10.below hbr) hA1k.out j).mono ?_
                    rintro e w11 ⟨hb11, vf, f, rfl, hvf, hff⟩
                    have hbr11 := hbr.trans (hb11.mono hszr)
                    have hW11 := hW.below hb11
                    obtain ⟨af, cf, hvf2, _, _, _⟩ := hvf.1.slice
                    subst hvf2
                    have hvf5 : OwnT w11 w10.heap.size (.slice af f.length cf) f := ⟨hvf.1.base_le hszr, hvf.2⟩
                    obtain ⟨fr, hfr⟩ : ∃ fr : FRow, fr = ⟨af, cf, f⟩ := ⟨_, rfl⟩
                    have hfe : #[Value.slice af f.length cf] = (encF fr).toArray := by rw [hfr]; rfl
                    replace hfe := Lib.hid hfe
                    replace hff := Lib.hid hff
                    replace hfr := Lib.hid hfr
                    clear hvf hW hb11 cg
                    dsimp only
                    go_wp2_with (at_builtin; refine Shut.out ?kaf)
                    unfold Shut
                    rw [hfe.out]
                    refine wpList_app1g rfl _ _ 46 rfl Try.underlying46 hiF hF0 hF1 hF2 rfl (by decide) (enc := encF) fr rfl hW11.own rfl (encF_len _) (encF_one _) (by rw [hwl]; omega) (by rw [hwl]; unfold maxLen; omega) hbr11.size (fun g cap7 w12 hown7 hgr7 => ?_)
                    have hcg : Chg (fun k => (Value.slice aw j cw).ownBlock = some k) w11 w12 := Chg.of_grown hgr7.grown
                    have hb12 : Below w10.heap.size w10 w12 := hbr11.trans (hcg.below hbr11.size (fun k hk e => by have := (hW11.own.lt k e).1; omega))
                    have hW12 := hW11.snoc (r := fr) (by rw [hfr.out]; exact hvf5) (by rw [hwl, hfr.out]; exact hff.out) hcg hown7
                    have hwl7 : (ws ++ [fr]).length = j + 1 := by rw [List.length_append, List.length_singleton, hwl]
                    rw [hwl] at hW12 ⊢
                    replace hwl7 := Lib.hid hwl7
                    replace hwl := Lib.hid hwl
                    clear hcg hown7 hgr7 hW11 hvf5 hbr11 hbr
                    go_wp2_with fail
                    go_roundw
                    case rel => exact ⟨j + 1, ws ++ [fr], by omega, by go_num, hb12, hW12, hwl7.out⟩
                    case measure => simp [intOf]; omega
                  · obtain rfl : n = j := by omega
                    obtain ⟨w11, hw11⟩ : ∃ w11, w11 = wr := ⟨_, rfl⟩
                    subst hw11
                    replace hwl := Lib.hid hwl
                    go_wp2_with fail
                    refine (hUp.out w11 hbr).mono ?_
                    rintro e w12 ⟨rfl, hC12, hc12⟩
                    have hW12 := hW.chg hmU hc12
                    have hz12 : w10.heap.size ≤ w12.heap.size := Nat.le_trans hbr.size hc12.size
                    clear cg hW hbr hUp hc12 hC10 hszr
                    dsimp only
                    go_wp2_with fail
                    go_loopw [20] (fun x20 wr => ∃ j : Nat, j ≤ n ∧ x20 = .int .i64 j ∧ Below w12.heap.size w12 wr) (fun x20 _ => n - (intOf x20).toNat)
                    case atStart => exact ⟨0, Nat.zero_le _, rfl, Below.refl _ _⟩
                    case round =>
                      clear hj
                      obtain ⟨j, hjn, rfl, hbr⟩ := hrel
                      have hCr := hC12.below hbr
                      have cg := hCr.g.cellAt (i := 0) (v := .slice ao n cap) rfl
                      by_cases hj : j < n
                      · go_wp2_with fail
                        refine (front_told hCr hA2k.out j).mono ?_
                        rintro e w13 ⟨hb13, vf, f, rfl, hvf, hff⟩
                        have hbr13 := hbr.trans (hb13.mono hbr.size)
                        have hjx : j < ws.length := by rw [hwl.out]; exact hj
                        obtain ⟨r, hr⟩ : ∃ r, ws[j] = r := ⟨_, rfl⟩
                        have hWr := hW12.below hbr13
                        have hFr : IsFront (timesS ops j A) r.f := by rw [← hr]; exact hWr.fr j hjx
                        have hcov := hfo.out j r.f f hFr hff
                        obtain ⟨_, _, hvr2, hsr⟩ := (hWr.rows r (by rw [← hr]; exact List.getElem_mem hjx)).sla
                        simp only [Value.slice.injEq] at hvr2
                        obtain ⟨rfl, hx9, rfl⟩ := hvr2
                        clear hx9
                        obtain ⟨af, cf, hvf2, hsf⟩ := hvf.sla
                        subst hvf2
                        obtain ⟨aw2, cw2, hvw, hsw⟩ := hWr.own.sla (E := fun _ cs x => cs = encF x) encF_len (fun _ _ => rfl)
                        have hvw2 : aw = aw2 ∧ n = ws.length ∧ cw = cw2 := by simpa using hvw
                        obtain ⟨rfl, hx9, rfl⟩ := hvw2
                        clear hx9
                        obtain ⟨b5, off5, rfl, hb5l, _⟩ := hsw.addr (by omega)
                        have cel : w13.cell? ⟨b5, off5 + j, none⟩ = some (.slice r.ao r.f.length r.cap) := by
                          obtain ⟨cs5, _, h6, h7⟩ := hsw.get j hjx
                          have h8 := h6 0 (by omega)
                          rw [Nat.mul_one, Nat.add_zero] at h8
                          rw [h8, h7, hr]
                          rfl
                        obtain ⟨nf, hnf⟩ : ∃ nf, nf = f.length := ⟨_, rfl⟩
                        have hnfl := hsf.len
                        rw [← hnf] at hnfl ⊢
                        replace hnf := Lib.hid hnf
                        replace hcov := Lib.hid hcov
                        clear hr hWr hvw hsw hvf hff hFr cg hCr hb13
                        dsimp only
                        go_wp2_with fail
                        go_loopw [22] (fun x22 wr => ∃ q : Nat, q ≤ nf ∧ x22 = .int .i64 q ∧ Below w13.heap.size w13 wr) (fun x22 _ => nf - (intOf x22).toNat)
                        case atStart => exact ⟨0, Nat.zero_le _, rfl, Below.refl _ _⟩
                        case round =>
                          obtain ⟨q, hqn, rfl, hb⟩ := hrel
                          by_cases hq : q < nf
                          · have hqf : q < f.length := by rw [← hnf.out]; exact hq
                            have hsfr := imp_times hsf hb
                            obtain ⟨b6, off6, rfl, hb6l, _⟩ := hsfr.addr (by omega)
                            obtain ⟨y, hy⟩ : ∃ y, f[q] = y := ⟨_, rfl⟩
                            obtain ⟨e0, e1, _, _⟩ := RTime.at hsfr hqf hy
                            have hcy := hcov.out y (by rw [← hy]; exact List.getElem_mem hqf)
                            have celr := (hb.cell (World.lt_of_cell cel)).trans cel
                            have hsrr := imp_times hsr hb
                            have hszb := hb.size
                            clear hy hsfr
                            go_upto_region 42 with fail
                            refine wp_region_tree (fun wx => wx.cell? ⟨b5, off5 + j, none⟩ = some (.slice r.ao r.f.length r.cap) ∧ wx.cell? ⟨b6, off6 + q * 2, none⟩ = some (.int .i64 y.fEpoch) ∧ wx.cell? ⟨b6, off6 + q * 2 + 1, none⟩ = some (.int .i64 y.fRound)) 8 10 (by kernel_rfl) rfl (by kernel_rfl) (fun d _ _ _ _ h => by cases d <;> exact h) (⟨celr, e0, e1⟩) (fun opz T hOps hT hTok hHeld => ?_)
                            (refine wpTree_q 0 hTok hOps (by kernel_rfl) rfl rfl ⟨?_, ?_, ?_⟩; rotate_left; (focus (intro wx hSx; (try dsimp only at hSx); go_simp; (try with_reducible rfl))); (simp only [Act.put, List.setIfInBounds_toArray, List.set_cons_zero, List.set_cons_succ]))
                            (refine wpTree_q 1 hTok hOps (by kernel_rfl) rfl rfl ⟨?_, ?_, ?_⟩; rotate_left; (focus (intro wx hSx; (try dsimp only at hSx); go_simp; (try with_reducible rfl))); (simp only [Act.put, List.setIfInBounds_toArray, List.set_cons_zero, List.set_cons_succ]))
                            (refine wpTree_q 2 hTok hOps (by kernel_rfl) rfl rfl ⟨?_, ?_, ?_⟩; rotate_left; (focus (intro wx hSx; (try dsimp only at hSx); go_simp; (try with_reducible rfl))); (simp only [Act.put, List.setIfInBounds_toArray, List.set_cons_zero, List.set_cons_succ]))
                            (refine wpTree_q 3 hTok hOps (by kernel_rfl) rfl rfl ⟨?_, ?_, ?_⟩; rotate_left; (focus (intro wx hSx; (try dsimp only at hSx); go_simp; (try with_reducible rfl))); (simp only [Act.put, List.setIfInBounds_toArray, List.set_cons_zero, List.set_cons_succ]))
                            (refine wpTree_q 4 hTok hOps (by kernel_rfl) rfl rfl ⟨?_, ?_, ?_⟩; rotate_left; (focus (intro wx hSx; (try dsimp only at hSx); go_simp; (try with_reducible rfl))); (simp only [Act.put, List.setIfInBounds_toArray, List.set_cons_zero, List.set_cons_succ]))
                            (refine wpTree_q 5 hTok hOps (by kernel_rfl) rfl rfl ⟨?_, ?_, ?_⟩; rotate_left; (focus (intro wx hSx; (try dsimp only at hSx); go_simp; (try with_reducible rfl))); (simp only [Act.put, List.setIfInBounds_toArray, List.set_cons_zero, List.set_cons_succ]))
                            (refine wpTree_q 6 hTok hOps (by kernel_rfl) rfl rfl ⟨?_, ?_, ?_⟩; rotate_left; (focus (intro wx hSx; (try dsimp only at hSx); go_simp; (try with_reducible rfl))); (simp only [Act.put, List.setIfInBounds_toArray, List.set_cons_zero, List.set_cons_succ]))
                            (refine wpTree_q 7 hTok hOps (by kernel_rfl) rfl rfl ⟨?_, ?_, ?_⟩; rotate_left; (focus (intro wx hSx; (try dsimp only at hSx); go_simp; (try with_reducible rfl))); (simp only [Act.put, List.setIfInBounds_toArray, List.set_cons_zero, List.set_cons_succ]))
                            refine wpTree_nil hOps (by kernel_rfl) ?_
                            refine hT.out _ _ ?_
                            simp only [List.drop_succ_cons, List.drop_zero]
                            clear hHeld hTok hOps hT celr e0 e1
                            have hbd : Below w13.heap.size w13 wr.drew := hb.drew
                            have hst := rcovers_any r.f y r.ao r.cap wr.drew w13.heap.size hbd.size (imp_times hsr hbd)
                            rw [hcy] at hst
                            replace hst := Lib.hid hst
                            clear hcy hsrr
                            go_wp2_with fail
                            refine hst.out.mono ?_
                            rintro e w14 ⟨rfl, hb14⟩
                            have hb15 := hbd.trans (hb14.mono hbd.size)
                            dsimp only
                            go_wp2_with fail
                            go_roundw
                            case rel => exact ⟨q + 1, by omega, by go_num, hb15⟩
                            case measure => simp [intOf]; omega
                          · have hb15 := hbr13.trans (hb.mono hbr13.size)
                            go_wp2_with fail
                            go_roundw
                            case rel => exact ⟨j + 1, by omega, by go_num, hb15⟩
                            case measure => simp [intOf]; omega
                      · go_wp2_with fail
                        go_roundw
                        case rel => exact ⟨i + 1, A', by omega, by omega, by go_num, hBl.out, hCr, hAg'.out⟩
                        case measure => simp [intOf]; omega
              -->L4
          · skip
            --<L2x
            as_aux_lemma =>
              have hcase : i = m2 ∨ (i < m2 ∧ i = 60) ∨ (i < m2 ∧ i < 60 ∧ nA = 0) := by omega
              replace hAg := Lib.hid hAg
              clear hlt hsA
              have hA3' := hA3
              rw [hnA] at hA3'
              replace hA3' := Lib.hid hA3'
              obtain ⟨vA, hvA⟩ : ∃ vA, vA = Value.slice av nA cv := ⟨_, rfl⟩
              have hCv : Cm w wr w1.heap.size tb U x ops (.slice ao n cap) A A vA := by rw [hvA]; exact hC
              clear hC
              replace hvA := Lib.hid hvA
              replace hnA := Lib.hid hnA
              rcases hcase with rfl | ⟨d1, rfl⟩ | ⟨d1, d2, rfl⟩
              all_goals
                go_wp2_with fail
                go_meet
                case rel => exact ⟨A, hA3'.out, by rw [← hvA.out]; exact hCv, hAg.out⟩
            -->L2x
      -->L2
    case rest =>
      --<L7
      as_aux_lemma =>
        obtain ⟨A, hA3, hC, hAg⟩ := hcut
        obtain ⟨w4, hw4⟩ : ∃ w4, w4 = wc := ⟨_, rfl⟩
        rw [← hw4] at hC ⊢
        clear hw4
        obtain ⟨av, cv, hv9, _⟩ := hC.own.slice
        obtain ⟨nA, hnA⟩ : ∃ nA, nA = A.length := ⟨_, rfl⟩
        rw [← hnA] at hv9 hA3
        subst hv9
        replace hnA := Lib.hid hnA
        replace hAg := Lib.hid hAg
        clear hmv hm2 hlen2
        go_wp2_with fail
        go_loopw [23] (fun x23 wr => ∃ j : Nat, j ≤ nA ∧ x23 = .int .i64 j ∧ Cm w wr w1.heap.size tb U x ops (.slice ao n cap) (A.drop j) A (.slice av nA cv)) (fun x23 _ => nA - (intOf x23).toNat)
        case atStart => exact ⟨0, Nat.zero_le _, rfl, hC⟩
        case round =>
          clear hC
          obtain ⟨j, hjn, rfl, hC⟩ := hrel
          by_cases hj : j < nA
          · have hjA : j < A.length := by rw [← hnA.out]; exact hj
            obtain ⟨av2, cv2, hv9, hsA⟩ := hC.own.sla (E := RStamp wr.heap.size) encS_len (fun x hx => ⟨rfl, (hAg.out x hx).2⟩)
            rw [← hnA.out] at hv9
            simp only [Value.slice.injEq] at hv9
            obtain ⟨rfl, hx9, rfl⟩ := hv9
            clear hx9
            obtain ⟨b3, off3, rfl, hb3l, _⟩ := hsA.addr (by omega)
            obtain ⟨s, hs⟩ : ∃ s, A[j] = s := ⟨_, rfl⟩
            obtain ⟨g0, g1, g2, hws⟩ := RStamp.at hsA hjA hs
            have hgs := (hAg.out s (by rw [← hs]; exact List.getElem_mem hjA)).1
            have hcall := upd_told (B' := A.drop (j + 1)) (hC.below ((Below.refl wr.heap.size wr).alloc (Nat.le_refl _) (.cells (encK ⟨s, -1⟩).toArray 40))) [⟨s, -1⟩] _ 1 (one_count hws rfl) (by simp) (by simp; have := hnA.out; omega) (by simp; have := hnA.out; omega)
              (fun t => by rw [List.drop_eq_getElem_cons hjA, hs, cntA_cons, totC_cons]; dsimp only; simp only [totC, List.map_nil, List.sum_nil]; split <;> omega) (by simp [okC, hgs])
            rw [show (encK ⟨s, -1⟩).toArray = #[.int .i64 s.fLoc, .int .i64 s.fT.fEpoch, .int .i64 s.fT.fRound, .int .i64 (-1)] from rfl] at hcall
            replace hcall := Lib.hid hcall
            clear hs hws hgs hsA hC
            go_wp2_with fail
            refine hcall.out.mono ?_
            rintro e w6 ⟨rfl, hC6, _⟩
            clear hcall g0 g1 g2
            dsimp only
            go_wp2_with fail
            go_roundw
            case rel => exact ⟨j + 1, by omega, by go_num, hC6⟩
            case measure => simp [intOf]; omega
          · obtain rfl : nA = j := by omega
            rw [List.drop_of_length_le (Nat.le_of_eq hnA.out.symm)] at hC
            obtain ⟨w5, hw5⟩ : ∃ w5, w5 = wr := ⟨_, rfl⟩
            subst hw5
            go_wp2_with fail
            go_loopw [24] (fun x24 wr => ∃ q : Nat, q ≤ n ∧ x24 = .int .i64 q ∧ Below w5.heap.size w5 wr) (fun x24 _ => n - (intOf x24).toNat)
            case atStart => exact ⟨0, Nat.zero_le _, rfl, Below.refl _ _⟩
            case round =>
              clear hj
              obtain ⟨q, hqn, rfl, hbr⟩ := hrel
              have hCr := hC.below hbr
              have cg := hCr.g.cellAt (i := 0) (v := .slice ao n cap) rfl
              by_cases hq : q < n
              · have hgq : goodS ops q 0 0 = true := by
                  have := hn.out
                  unfold goodS goodT
                  simp
                  omega
                go_wp2_with fail
                refine (front_told hCr (by simp) q).mono ?_
                rintro e w6 ⟨hb6, vf, f, rfl, hvf, hff⟩
                obtain rfl := front_end hff
                obtain ⟨af, cf, rfl, _⟩ := hvf.sla
                have hC6 := hCr.below hb6
                have hbr6 := hbr.trans (hb6.mono hbr.size)
                clear hCr cg hvf hff hb6 hbr
                dsimp only
                go_wp2_with fail
                refine (done_told hC6 (by simp) ⟨q, ⟨0, 0⟩⟩ hgq rfl).mono ?_
                rintro e w7 ⟨rfl, hb7⟩
                have hbr7 := hbr6.trans (hb7.mono hbr6.size)
                dsimp only
                go_wp2_with fail
                go_roundw
                case rel => exact ⟨q + 1, by omega, by go_num, hbr7⟩
                case measure => simp [intOf]; omega
              · have hbe := hCr.bel
                go_wp2_with fail
                go_ret
                exact ⟨rfl, hbe⟩
      -->L7
end Go.Proofs.Ytbholbjegfnpdaa
