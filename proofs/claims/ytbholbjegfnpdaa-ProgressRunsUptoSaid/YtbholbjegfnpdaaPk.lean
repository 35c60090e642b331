/- Progress: the walk of ProgressBack. -/
import Derived.Test.YtbholbjegfnpdaaPj
import Derived.Test.YtbholbjegfnpdaaPi
namespace Go.Proofs.Ytbholbjegfnpdaa
open Go.RowKit Go.Maps
set_option linter.unusedVariables false
set_option linter.unusedSimpArgs false

/-- A front as it lies. -/
structure FRow where
  ao : Option Addr
  cap : Nat
  f : List TTime
def encF (r : FRow) : List Value := [.slice r.ao r.f.length r.cap]
theorem encF_len (r : FRow) : (encF r).length = 1 := rfl
theorem encF_one (r : FRow) : ∀ u ∈ encF r, u.oneCell' = true := by
  intro u hu
  simp only [encF, List.mem_singleton] at hu
  subst hu
  rfl
theorem infoF : (Try.prog.info? 47).map (fun i => (i.zero, i.size, i.bytes)) = some (some (.slice none 0 0), 1, 24) := by kernel_rfl
theorem own_ne_map2 {α : Type} {enc : α → List Value} {w : World} {base mb sz : Nat} {e : TypeId} {v : Value} {L : List α} {es : List (TStamp × Value)} (h : OwnL enc w base e sz v L) (hM : MapL Try.prog 37 klS wfS w mb es) : ∀ g, v.ownBlock = some g → ¬ g = mb := fun g e1 e2 => by
  rcases h.form with ⟨h4, _⟩ | ⟨g', cap2, cells, h4, h5, _⟩
  · rw [h4] at e1; cases e1
  · rw [h4] at e1
    obtain rfl : g' = g := by simpa [Value.ownBlock] using e1
    exact hM.ne_blk h5 e2.symm
/-- The fronts that were, from base on. -/
structure Was (w : World) (base : Nat) (v : Value) (ops : List TOp) (cs : List (TStamp × Int)) (ws : List FRow) : Prop where
  own : OwnL encF w base 47 1 v ws
  rows : ∀ r ∈ ws, OwnT w base (.slice r.ao r.f.length r.cap) r.f
  fr : ∀ j (h : j < ws.length), IsFront (timesS ops j (aliveC cs)) ws[j].f
namespace Was
variable {w w' : World} {base : Nat} {v : Value} {ops : List TOp} {cs : List (TStamp × Int)} {ws : List FRow}
theorem below (h : Was w base v ops cs ws) (b : Below w.heap.size w w') : Was w' base v ops cs ws := ⟨h.own.below b (Nat.le_refl _), fun r hr => ⟨(h.rows r hr).1.below b (Nat.le_refl _), (h.rows r hr).2⟩, h.fr⟩
theorem turn (h : Was w base v ops cs ws) {mb : Nat} {es : List (TStamp × Value)} (hM : MapL Try.prog 37 klS wfS w mb es) (hc : Chg (fun k => k = mb) w w') : Was w' base v ops cs ws :=
  ⟨h.own.chg hc (own_ne_map2 h.own hM), fun r hr => ⟨(h.rows r hr).1.chg hc (own_ne_map2 (h.rows r hr).1 hM), (h.rows r hr).2⟩, h.fr⟩
theorem snoc (h : Was w base v ops cs ws) {r : FRow} {v' : Value} (hr : OwnT w base (.slice r.ao r.f.length r.cap) r.f) (hf : IsFront (timesS ops ws.length (aliveC cs)) r.f) (hc : Chg (fun k => v.ownBlock = some k) w w') (ho : OwnL encF w' base 47 1 v' (ws ++ [r])) : Was w' base v' ops cs (ws ++ [r]) := by
  have key : ∀ q : FRow, OwnT w base (.slice q.ao q.f.length q.cap) q.f → OwnT w' base (.slice q.ao q.f.length q.cap) q.f := fun q hq => ⟨hq.1.chg hc (fun g e1 e2 => by
    rcases hq.1.form with ⟨h4, _⟩ | ⟨g', cap2, cells, h4, h5, _⟩
    · rw [h4] at e1; cases e1
    · rw [h4] at e1
      obtain rfl : g' = g := by simpa [Value.ownBlock] using e1
      exact h.own.ne_blk h5 (by decide) e2), hq.2⟩
  refine ⟨ho, fun q hq => ?_, fun j hj => ?_⟩
  · rcases List.mem_append.1 hq with h1 | h1
    · exact key q (h.rows q h1)
    · obtain rfl := List.mem_singleton.1 h1
      exact key _ hr
  · rw [List.length_append, List.length_singleton] at hj
    by_cases hjl : j < ws.length
    · rw [List.getElem_append_left hjl]
      exact h.fr j hjl
    · obtain rfl : j = ws.length := by omega
      simpa using hf
end Was

set_option maxRecDepth 100000 in
set_option maxHeartbeats 4000000 in
theorem pback_no (ops : List TOp) (cap : Nat) (ao : Option Addr) (v1 v2 : Value) (w : World) (hx : SlA w.heap.size 7 (ROp w.heap.size) w ao cap ops) (hok : (gcheck ops).2 ≠ 0) :
    Calls Try.prog 4 #[.agg #[.slice ao ops.length cap], v1, v2] w fun e w' => e = .returned (.bool true) ∧ Below w.heap.size w w' := by
  have hN := fun W hb => new_no ops cap ao W (imp_ops2 hx hb) hok
  obtain ⟨n, hn⟩ : ∃ n, n = ops.length := ⟨_, rfl⟩
  rw [← hn] at hN ⊢
  replace hN := Lib.hid hN
  clear hn hx hok
  go_enter Try.func4, Try.ntmps4
  go_wp2_with fail
  refine (pknown_any _).mono ?_
  rintro e w1 ⟨rfl, hb1⟩
  have hd1 : Hd [(w.heap.size, .slice ao n cap, 24)] w1 := ((Hd.nil w).alloc (.slice ao n cap) 24).below hb1 (Nat.le_refl _)
  have hbel : Below w.heap.size w w1 := ((Below.refl w.heap.size w).alloc (Nat.le_refl _) (.cells #[.slice ao n cap] 24)).trans (hb1.mono (by simp))
  clear hb1
  have cg := hd1.cell (b := w.heap.size) (v := .slice ao n cap) (T := 24) (by simp)
  dsimp only
  go_wp2_with fail
  refine (hN.out _ hbel).mono ?_
  rintro e w2 ⟨rfl, hb2⟩
  have hbel2 := hbel.trans (hb2.mono hbel.size)
  dsimp only
  go_wp2_with fail
  go_ret
  exact ⟨rfl, hbel2⟩

set_option maxRecDepth 100000 in
set_option maxHeartbeats 4000000 in
theorem pback_ok (ops : List TOp) (cap : Nat) (ao : Option Addr) (l1 : List TCount) (a1 : Option Addr) (c1 : Nat) (l : List TCount) (la : Option Addr) (lc : Nat) (w : World) (hx : SlA w.heap.size 7 (ROp w.heap.size) w ao cap ops) (hl1 : SlA w.heap.size 4 (RCount w.heap.size) w a1 c1 l1) (hz1 : l1.length * 32 ≤ 140737488351232)
    (hl : SlA w.heap.size 4 (RCount w.heap.size) w la lc l) (hz : l.length * 32 ≤ 140737488351232) (hok : (gcheck ops).2 = 0) (hzi : ∀ o ∈ ops, o.fIn.length * 8 ≤ 140737488355328) :
    Calls Try.prog 4 #[.agg #[.slice ao ops.length cap], .slice a1 l1.length c1, .slice la l.length lc] w fun e w' => e = .returned (.bool true) ∧ Below w.heap.size w w' := by
  obtain ⟨jK, hiK, hK0, hK1, hK2⟩ := info_parts infoK
  obtain ⟨jF, hiF, hF0, hF1, hF2⟩ := info_parts infoF
  have hN := fun W hb => new_ok ops ao cap W (imp_ops2 hx hb) hok hzi
  have hmost := (okG_of_check hok).most
  obtain ⟨n, hn⟩ : ∃ n, n = ops.length := ⟨_, rfl⟩
  rw [← hn] at hN hmost ⊢
  obtain ⟨m, hm⟩ : ∃ m, m = l.length := ⟨_, rfl⟩
  obtain ⟨m1, hm1⟩ : ∃ m1, m1 = l1.length := ⟨_, rfl⟩
  rw [← hm] at hz ⊢
  rw [← hm1] at hz1 ⊢
  replace hm := Lib.hid hm
  replace hm1 := Lib.hid hm1
  replace hN := Lib.hid hN
  replace hn := Lib.hid hn
  clear hx hok hzi
  go_enter Try.func4, Try.ntmps4
  go_wp2_with fail
  refine (pknown_any _).mono ?_
  rintro e w1 ⟨rfl, hb1⟩
  have hA1 : Blk w1 w.heap.size #[.slice ao n cap] 24 := (Blk.new w _ _).below hb1 (by simp)
  have hbel : Below w.heap.size w w1 := ((Below.refl w.heap.size w).alloc (Nat.le_refl _) (.cells #[.slice ao n cap] 24)).trans (hb1.mono (by simp))
  clear hb1
  have cg := hA1.cellAt (i := 0) (v := .slice ao n cap) rfl
  dsimp only
  go_wp2_with fail
  refine (hN.out _ hbel).mono ?_
  rintro e w2 ⟨hb2, tb, x, rfl, hT⟩
  have hbel2 := hbel.trans (hb2.mono hbel.size)
  have hmbb : w.heap.size < x.mb := Nat.lt_of_lt_of_le hA1.lt hT.bmb
  have hA2 := hA1.below hb2 hA1.lt
  have hU := update_any l1 a1 c1 w2 hT (hl1.imp hbel2 hbel2.size (fun _ _ _ h => h.imp hbel2 hbel2.size)) (by rw [← hm1.out]; omega) (by rw [← hm1.out]; simp; omega)
  rw [← hm1.out] at hU
  clear hb2 cg hN hA1
  dsimp only
  go_wp2_with fail
  refine hU.mono ?_
  rintro e w5 ⟨rfl, hc5, hbad, hgood⟩
  obtain ⟨cs, hT5, hcl⟩ : ∃ cs, Tr w5 w1.heap.size tb x ops cs ∧ cs.length ≤ m1 := by
    by_cases hE : updE ops [] l1 = 0
    · obtain ⟨cs, h1, _, h3⟩ := hgood hE
      exact ⟨cs, h1, by simpa using h3⟩
    · exact ⟨[], hT.below ((hbad hE).mono (Nat.le_refl _)), by simp⟩
  have hA5 := hA2.chg hc5 (fun e => by omega)
  have hbel5 : Below w.heap.size w w5 := hbel2.trans (hc5.below hbel2.size (fun k hk e => by omega))
  generalize updE ops [] l1 = ue
  clear hU hc5 hbad hgood hT hbel hbel2 hA2
  have hcz : (cs.length + 1) * 24 ≤ 140737488355328 := by omega
  have cg := hA5.cellAt (i := 0) (v := .slice ao n cap) rfl
  dsimp only
  go_wp2_with fail
  clear cg
  go_loopw [9, 10] (fun x9 x10 wr => ∃ (i : Nat) (ws : List FRow), i ≤ n ∧ x10 = .int .i64 i ∧ Below w5.heap.size w5 wr ∧ Was wr w5.heap.size x9 ops cs ws ∧ ws.length = i) (fun _ x10 _ => n - (intOf x10).toNat)
  case atStart => exact ⟨0, [], Nat.zero_le _, rfl, Below.refl _ _, ⟨OwnL.nil _ _ _ _ _, by simp, fun j h => by simp at h⟩, rfl⟩
  case round =>
    obtain ⟨i, ws, him, rfl, hbr, hW, hwl⟩ := hrel
    have cg := (hA5.below hbr hA5.lt).cellAt (i := 0) (v := .slice ao n cap) rfl
    by_cases hi : i < n
    · have hT6 := hT5.below hbr
      obtain ⟨av, cv, hv9, _, _, _⟩ := hW.own.slice
      rw [hwl] at hv9
      subst hv9
      have hszr := hbr.size
      go_wp2_with fail
      refine (tfront_any i wr hT6 hcz).mono ?_
      rintro e w6 ⟨vf, f, rfl, hvf, hff, hb6⟩
      have hbr6 := hbr.trans (hb6.mono hszr)
      have hW6 := hW.below hb6
      obtain ⟨af, cf, hvf2, _, _, _⟩ := hvf.1.slice
      subst hvf2
      have hvf5 : OwnT w6 w5.heap.size (.slice af f.length cf) f := ⟨hvf.1.base_le hszr, hvf.2⟩
      obtain ⟨fr, hfr⟩ : ∃ fr : FRow, fr = ⟨af, cf, f⟩ := ⟨_, rfl⟩
      have hfe : #[Value.slice af f.length cf] = (encF fr).toArray := by rw [hfr]; rfl
      replace hfe := Lib.hid hfe
      replace hff := Lib.hid hff
      replace hfr := Lib.hid hfr
      clear hvf hW hb6 hT6 cg
      dsimp only
      go_wp2_with (at_builtin; refine Shut.out ?kap)
      unfold Shut
      rw [hfe.out]
      refine wpList_app1g rfl _ _ 46 rfl Try.underlying46 hiF hF0 hF1 hF2 rfl (by decide) (enc := encF) fr rfl hW6.own rfl (encF_len _) (encF_one _) (by rw [hwl]; omega) (by rw [hwl]; unfold maxLen; omega) hbr6.size (fun g cap7 w7 hown7 hgr7 => ?_)
      have hcg : Chg (fun k => (Value.slice av i cv).ownBlock = some k) w6 w7 := Chg.of_grown hgr7.grown
      have hb7 : Below w5.heap.size w5 w7 := hbr6.trans (hcg.below hbr6.size (fun k hk e => by have := (hW6.own.lt k e).1; omega))
      have hW7 := hW6.snoc (r := fr) (by rw [hfr.out]; exact hvf5) (by rw [hwl, hfr.out]; exact hff.out) hcg hown7
      have hwl7 : (ws ++ [fr]).length = i + 1 := by rw [List.length_append, List.length_singleton, hwl]
      rw [hwl] at hW7 ⊢
      replace hwl7 := Lib.hid hwl7
      replace hwl := Lib.hid hwl
      clear hcg hown7 hgr7 hW6 hvf5 hbr6 hbr
      go_wp2_with fail
      go_roundw
      case rel => exact ⟨i + 1, ws ++ [fr], by omega, by go_num, hb7, hW7, hwl7.out⟩
      case measure => simp [intOf]; omega
    · obtain rfl : n = i := by omega
      obtain ⟨w6, hw6⟩ : ∃ w6, w6 = wr := ⟨_, rfl⟩
      subst hw6
      have hT6 := hT5.below hbr
      have hA6 := hA5.below hbr hA5.lt
      have hbel6 := hbel5.trans (hbr.mono hbel5.size)
      have hws := hbel5.size
      have hU := update_any l la lc w6 hT6 (hl.imp hbel6 hbel6.size (fun _ _ _ h => h.imp hbel6 hbel6.size)) (by rw [← hm.out]; omega) (by rw [← hm.out]; omega)
      rw [← hm.out] at hU
      replace hwl := Lib.hid hwl
      clear hT5 hA5 hbel5 hbr
      go_wp2_with fail
      refine hU.mono ?_
      rintro e w7 ⟨rfl, hc7, hbad, hgood⟩
      have hW7 := hW.turn hT6.map hc7
      have hA7 := hA6.chg hc7 (fun e => by omega)
      have hbel7 : Below w.heap.size w w7 := hbel6.trans (hc7.below hbel6.size (fun k hk e => by omega))
      obtain ⟨ue2, hue⟩ : ∃ u, u = updE ops cs l := ⟨_, rfl⟩
      rw [← hue]
      by_cases hE : ue2 = 0
      · obtain ⟨cs1, hT7, hcnt, hcl1⟩ := hgood (by rw [← hue]; exact hE)
        have hall := updE_ok (hue.symm.trans hE)
        have hq : (ue2 == 0) = true := by simpa using hE
        replace hue := Lib.hid hue
        replace hall := Lib.hid hall
        clear hE hbad hgood hc7 hA6 hbel6 hU hW
        have hlen := hl.len
        rw [← hm.out] at hlen
        dsimp only
        go_wp2_with fail
        go_loopw [11, 12] (fun x11 x12 wr => ∃ i : Nat, i ≤ m ∧ x12 = .int .i64 i ∧ Below w7.heap.size w7 wr ∧ OwnL encK wr w7.heap.size 40 4 x11 ((l.take i).map backC)) (fun _ x12 _ => m - (intOf x12).toNat)
        case atStart => exact ⟨0, Nat.zero_le _, rfl, Below.refl _ _, OwnL.nil _ _ _ _ _⟩
        case round =>
          obtain ⟨i, hi7, rfl, hbr, hown⟩ := hrel
          by_cases hi : i < m
          · have hix : i < l.length := by rw [← hm.out]; exact hi
            have hbw := hbel7.trans (hbr.mono hbel7.size)
            obtain ⟨b2, off2, rfl, hb2l, _⟩ := hl.addr (by omega)
            obtain ⟨c, hc⟩ : ∃ c, l[i] = c := ⟨_, rfl⟩
            obtain ⟨e0, e1, e2, e3, _⟩ := RCount.at (hl.imp hbw (Nat.le_refl _) (fun _ _ _ h => h.imp hbw (Nat.le_refl _))) hix hc
            have hokc : okC ops c = true := List.all_eq_true.1 hall.out c (by rw [← hc]; exact List.getElem_mem hix)
            have htk : (l.take (i + 1)).map backC = (l.take i).map backC ++ [backC c] := by rw [take_snoc hix, List.map_append, hc]; rfl
            have hneg : IntKind.i64.wrap (-c.fN) = -c.fN := by
              unfold okC at hokc
              simp only [Bool.and_eq_true, decide_eq_true_eq] at hokc
              exact IntWalk.i64_in _ (by omega)
            have hneg2 : wrap64 (-c.fN) = -c.fN := by
              unfold okC at hokc
              simp only [Bool.and_eq_true, decide_eq_true_eq] at hokc
              exact IntWalk.wrap64_in _ (by omega)
            have hbe : (#[.int .i64 c.fS.fLoc, .int .i64 c.fS.fT.fEpoch, .int .i64 c.fS.fT.fRound, .int .i64 (-c.fN)] : Array Value) = (encK (backC c)).toArray := rfl
            have htl : ((l.take i).map backC).length = i := by rw [List.length_map, List.length_take]; omega
            obtain ⟨av, cv, hv11, _, _, _⟩ := hown.slice
            rw [htl] at hv11
            subst hv11
            have hszr := hbr.size
            have hb2w : b2 < wr.heap.size := Nat.lt_of_lt_of_le hb2l hbw.size
            replace htk := Lib.hid htk
            replace hbe := Lib.hid hbe
            replace htl := Lib.hid htl
            clear hokc hc
            go_upto_region 17 with fail
            refine wp_region_tree (fun wx => wx.cell? ⟨b2, off2 + i * 4, none⟩ = some (.int .i64 c.fS.fLoc) ∧ wx.cell? ⟨b2, off2 + i * 4 + 1, none⟩ = some (.int .i64 c.fS.fT.fEpoch) ∧ wx.cell? ⟨b2, off2 + i * 4 + 2, none⟩ = some (.int .i64 c.fS.fT.fRound) ∧ wx.cell? ⟨b2, off2 + i * 4 + 3, none⟩ = some (.int .i64 c.fN)) 14 16 (by kernel_rfl) rfl (by kernel_rfl) (fun d _ _ _ _ h => by cases d <;> exact h) (⟨e0, e1, e2, e3⟩) (fun opz T hOps hT hTok hHeld => ?_)
            (refine wpTree_q 0 hTok hOps (by kernel_rfl) rfl rfl ⟨?_, ?_, ?_⟩; rotate_left; (focus (intro wx hSx; (try dsimp only at hSx); go_simp; (try with_reducible rfl))); (simp only [Act.put, List.setIfInBounds_toArray, List.set_cons_zero, List.set_cons_succ]))
            (refine wpTree_q 1 hTok hOps (by kernel_rfl) rfl rfl ⟨?_, ?_, ?_⟩; rotate_left; (focus (intro wx hSx; (try dsimp only at hSx); go_simp; (try with_reducible rfl))); (simp only [Act.put, List.setIfInBounds_toArray, List.set_cons_zero, List.set_cons_succ]))
            (refine wpTree_q 2 hTok hOps (by kernel_rfl) rfl rfl ⟨?_, ?_, ?_⟩; rotate_left; (focus (intro wx hSx; (try dsimp only at hSx); go_simp; (try with_reducible rfl))); (simp only [Act.put, List.setIfInBounds_toArray, List.set_cons_zero, List.set_cons_succ]))
            (refine wpTree_q 3 hTok hOps (by kernel_rfl) rfl rfl ⟨?_, ?_, ?_⟩; rotate_left; (focus (intro wx hSx; (try dsimp only at hSx); go_simp; (try with_reducible rfl))); (simp only [Act.put, List.setIfInBounds_toArray, List.set_cons_zero, List.set_cons_succ]))
            (refine wpTree_q 4 hTok hOps (by kernel_rfl) rfl rfl ⟨?_, ?_, ?_⟩; rotate_left; (focus (intro wx hSx; (try dsimp only at hSx); go_simp; (try with_reducible rfl))); (simp only [Act.put, List.setIfInBounds_toArray, List.set_cons_zero, List.set_cons_succ]))
            (refine wpTree_q 5 hTok hOps (by kernel_rfl) rfl rfl ⟨?_, ?_, ?_⟩; rotate_left; (focus (intro wx hSx; (try dsimp only at hSx); go_simp; (try with_reducible rfl))); (simp only [Act.put, List.setIfInBounds_toArray, List.set_cons_zero, List.set_cons_succ]))
            (refine wpTree_q 6 hTok hOps (by kernel_rfl) rfl rfl ⟨?_, ?_, ?_⟩; rotate_left; (focus (intro wx hSx; (try dsimp only at hSx); go_simp; (try with_reducible rfl))); (simp only [Act.put, List.setIfInBounds_toArray, List.set_cons_zero, List.set_cons_succ]))
            (refine wpTree_q 7 hTok hOps (by kernel_rfl) rfl rfl ⟨?_, ?_, ?_⟩; rotate_left; (focus (intro wx hSx; (try dsimp only at hSx); go_simp; (try with_reducible rfl))); (simp only [Act.put, List.setIfInBounds_toArray, List.set_cons_zero, List.set_cons_succ]))
            (refine wpTree_q 8 hTok hOps (by kernel_rfl) rfl rfl ⟨?_, ?_, ?_⟩; rotate_left; (focus (intro wx hSx; (try dsimp only at hSx); go_simp; (try with_reducible rfl))); (simp only [Act.put, List.setIfInBounds_toArray, List.set_cons_zero, List.set_cons_succ]))
            (refine wpTree_q 9 hTok hOps (by kernel_rfl) rfl rfl ⟨?_, ?_, ?_⟩; rotate_left; (focus (intro wx hSx; (try dsimp only at hSx); go_simp; (try with_reducible rfl))); (simp only [Act.put, List.setIfInBounds_toArray, List.set_cons_zero, List.set_cons_succ]))
            (refine wpTree_q 10 hTok hOps (by kernel_rfl) rfl rfl ⟨?_, ?_, ?_⟩; rotate_left; (focus (intro wx hSx; (try dsimp only at hSx); go_simp; (try with_reducible rfl))); (simp only [Act.put, List.setIfInBounds_toArray, List.set_cons_zero, List.set_cons_succ]))
            (refine wpTree_q 11 hTok hOps (by kernel_rfl) rfl rfl ⟨?_, ?_, ?_⟩; rotate_left; (focus (intro wx hSx; (try dsimp only at hSx); go_simp; (try with_reducible rfl))); (simp only [Act.put, List.setIfInBounds_toArray, List.set_cons_zero, List.set_cons_succ]))
            (refine wpTree_q 12 hTok hOps (by kernel_rfl) rfl rfl ⟨?_, ?_, ?_⟩; rotate_left; (focus (intro wx hSx; (try dsimp only at hSx); go_simp; (try with_reducible rfl))); (simp only [Act.put, List.setIfInBounds_toArray, List.set_cons_zero, List.set_cons_succ]))
            refine wpTree_1 13 hOps (by kernel_rfl) (by decide) rfl (fun K' hK => ?_)
            go_simp
            have hch : ∀ o : Obj, Chg (fun _ => False) wr (wr.drew.alloc o) := fun o => ((Chg.refl _ wr).drew).alloc o
            refine hK.out _ _ ⟨((hch _).cell (World.lt_of_cell e0) (fun h => h)).trans e0, ((hch _).cell (World.lt_of_cell e1) (fun h => h)).trans e1, ((hch _).cell (World.lt_of_cell e2) (fun h => h)).trans e2, ((hch _).cell (World.lt_of_cell e3) (fun h => h)).trans e3⟩ ?_
            clear hK K'
            try simp only [Act.put, List.setIfInBounds_toArray, List.set_cons_zero, List.set_cons_succ]
            refine wpTree_nil hOps (by kernel_rfl) ?_
            refine hT.out _ _ ?_
            simp only [List.drop_succ_cons, List.drop_zero]
            clear hHeld hTok hOps hT hch e0 e1 e2 e3
            have hownd : OwnL encK wr.drew w7.heap.size 40 4 (.slice av i cv) ((l.take i).map backC) := hown.chg ((Chg.refl (fun _ => False) wr).drew) (fun _ _ h => h)
            go_wp2_with (at_builtin; refine Shut.out ?kap2)
            unfold Shut
            rw [hbe.out]
            change wpList _ _ _ _ _ (wr.drew.alloc (.cells (encK (backC c)).toArray 40))
            refine wpList_app1 rfl _ _ 41 rfl Try.underlying41 hiK hK0 hK1 hK2 rfl (by decide) (enc := encK) (backC c) rfl hownd rfl (encK_len _) (encK_one _) (by rw [htl.out]; omega) (by rw [htl.out]; unfold maxLen; omega) hszr ?_
            intro a3 cp3 w8 hown8 hb8 _
            rw [← htk.out] at hown8
            have hb78 : Below w7.heap.size w7 w8 := hbr.trans (((Below.refl _ wr).drew).trans hb8)
            rw [htl.out] at hown8 ⊢
            clear hownd hb8 hown hbr
            go_wp2_with fail
            go_roundw
            case rel => exact ⟨i + 1, by omega, by go_num, hb78, hown8⟩
            case measure => simp [intOf]; omega
          · obtain rfl : m = i := by omega
            obtain ⟨w8, hw8⟩ : ∃ w8, w8 = wr := ⟨_, rfl⟩
            subst hw8
            rw [List.take_of_length_le (by rw [← hm.out]; exact Nat.le_refl _)] at hown
            have hT8 := hT7.below hbr
            have hW8 := hW7.below hbr
            have hA8 := hA7.below hbr hA7.lt
            have hbel8 := hbel7.trans (hbr.mono hbel7.size)
            have hnz := hT6.nz
            have hnd := hT6.nodup
            have hE0 := back_upd (ops := ops) hnz hcnt hall.out
            have hwf : ∀ x ∈ l.map backC, RCount w8.heap.size w8 (encK x) x := fun x hx => by
              obtain ⟨c, hc, rfl⟩ := List.mem_map.1 hx
              obtain ⟨_, h1, h2, h3, _⟩ := rcount_all (B' := w8.heap.size) (w' := w8) hl c hc
              refine ⟨rfl, h1, h2, h3, ?_⟩
              have hokc := List.all_eq_true.1 hall.out c hc
              unfold okC at hokc
              simp only [Bool.and_eq_true, decide_eq_true_eq] at hokc
              have := wrap64_wf (-c.fN)
              rwa [IntWalk.wrap64_in _ (by omega)] at this
            obtain ⟨ab, cb, hvb, hsb⟩ := hown.sla (E := RCount w8.heap.size) encK_len hwf
            have hbl : (l.map backC).length = m := by rw [List.length_map, ← hm.out]
            have hU2 := update_any (l.map backC) ab cb w8 hT8 hsb (by rw [hbl]; omega) (by rw [hbl]; omega)
            rw [hbl] at hvb hU2
            rw [hE0] at hU2
            subst hvb
            replace hU2 := Lib.hid hU2
            replace hnz := Lib.hid hnz
            replace hnd := Lib.hid hnd
            replace hcnt := Lib.hid hcnt
            have hws8 := hbel8.size
            clear hE0 hwf hsb hown hT7 hA7 hW7 hbel7 hbr hall hT6 hbl
            go_wp2_with fail
            refine hU2.out.mono ?_
            rintro e w9 ⟨rfl, hc9, _, hgood9⟩
            obtain ⟨cs3, hT9, hcnt3, _⟩ := hgood9 (by first | rfl | trivial)
            have hsc : ∀ s, cntC cs3 s = cntC cs s := fun s => (hcnt3 s).trans (back_pass hnz.out hcnt.out s)
            have hsame := same_alive hnd.out hT9.nodup hsc
            have hcz9 : (cs3.length + 1) * 24 ≤ 140737488355328 := by rw [same_len hnd.out hnz.out hT9.nodup hT9.nz hsc]; exact hcz
            have hW9 := hW8.turn hT8.map hc9
            have hA9 := hA8.chg hc9 (fun e => by omega)
            have hbel9 : Below w.heap.size w w9 := hbel8.trans (hc9.below hws8 (fun k hk e => by omega))
            clear hU2 hgood9 hcnt3 hsc hcnt hnz hnd hcz hc9 hT8 hW8 hA8 hbel8 hws8
            dsimp only
            obtain ⟨av, cv, hv9, _, _, _⟩ := hW9.own.slice
            rw [hwl.out] at hv9
            subst hv9
            have hsz9 := hbel9.size
            have cg := hA9.cellAt (i := 0) (v := .slice ao n cap) rfl
            go_wp2_with fail
            clear cg
            go_loopw [13] (fun x13 wr => ∃ i : Nat, i ≤ n ∧ x13 = .int .i64 i ∧ Below w9.heap.size w9 wr) (fun x13 _ => n - (intOf x13).toNat)
            case atStart => exact ⟨0, Nat.zero_le _, rfl, Below.refl _ _⟩
            case round =>
              obtain ⟨i, hi9, rfl, hbr⟩ := hrel
              have cg := (hA9.below hbr hA9.lt).cellAt (i := 0) (v := .slice ao n cap) rfl
              by_cases hi : i < n
              · have hix : i < ws.length := by rw [hwl.out]; exact hi
                have hTr := hT9.below hbr
                have hWr := hW9.below hbr
                obtain ⟨r, hr⟩ : ∃ r, ws[i] = r := ⟨_, rfl⟩
                obtain ⟨hFo, hFr⟩ : OwnT wr w5.heap.size (.slice r.ao r.f.length r.cap) r.f ∧ IsFront (timesS ops i (aliveC cs)) r.f := ⟨hWr.rows r (by rw [← hr]; exact List.getElem_mem hix), by rw [← hr]; exact hWr.fr i hix⟩
                obtain ⟨aw, cw, hvw, hsw⟩ := hWr.own.sla (E := fun _ cs x => cs = encF x) encF_len (fun _ _ => rfl)
                have hvw2 : av = aw ∧ n = ws.length ∧ cv = cw := by simpa using hvw
                obtain ⟨rfl, hx9, rfl⟩ := hvw2
                clear hx9
                obtain ⟨b5, off5, rfl, hb5l, _⟩ := hsw.addr (by omega)
                have cel : wr.cell? ⟨b5, off5 + i, none⟩ = some (.slice r.ao r.f.length r.cap) := by
                  obtain ⟨cs5, _, h6, h7⟩ := hsw.get i hix
                  have h8 := h6 0 (by omega)
                  rw [Nat.mul_one, Nat.add_zero] at h8
                  rw [h8, h7, hr]
                  rfl
                have hszr := hbr.size
                have hbw := hbel9.trans (hbr.mono hsz9)
                clear hr hWr hvw hsw
                go_upto_region 23 with fail
                refine wp_region_tree (fun wx => wx.cell? ⟨b5, off5 + i, none⟩ = some (.slice r.ao r.f.length r.cap)) 7 9 (by kernel_rfl) rfl (by kernel_rfl) (fun d _ _ _ _ h => by cases d <;> exact h) (cel) (fun opz T hOps hT hTok hHeld => ?_)
                (refine wpTree_q 0 hTok hOps (by kernel_rfl) rfl rfl ⟨?_, ?_, ?_⟩; rotate_left; (focus (intro wx hSx; (try dsimp only at hSx); go_simp; (try with_reducible rfl))); (simp only [Act.put, List.setIfInBounds_toArray, List.set_cons_zero, List.set_cons_succ]))
                (refine wpTree_q 1 hTok hOps (by kernel_rfl) rfl rfl ⟨?_, ?_, ?_⟩; rotate_left; (focus (intro wx hSx; (try dsimp only at hSx); go_simp; (try with_reducible rfl))); (simp only [Act.put, List.setIfInBounds_toArray, List.set_cons_zero, List.set_cons_succ]))
                (refine wpTree_q 3 hTok hOps (by kernel_rfl) rfl rfl ⟨?_, ?_, ?_⟩; rotate_left; (focus (intro wx hSx; (try dsimp only at hSx); go_simp; (try with_reducible rfl))); (simp only [Act.put, List.setIfInBounds_toArray, List.set_cons_zero, List.set_cons_succ]))
                (refine wpTree_q 4 hTok hOps (by kernel_rfl) rfl rfl ⟨?_, ?_, ?_⟩; rotate_left; (focus (intro wx hSx; (try dsimp only at hSx); go_simp; (try with_reducible rfl))); (simp only [Act.put, List.setIfInBounds_toArray, List.set_cons_zero, List.set_cons_succ]))
                (refine wpTree_q 5 hTok hOps (by kernel_rfl) rfl rfl ⟨?_, ?_, ?_⟩; rotate_left; (focus (intro wx hSx; (try dsimp only at hSx); go_simp; (try with_reducible rfl))); (simp only [Act.put, List.setIfInBounds_toArray, List.set_cons_zero, List.set_cons_succ]))
                (refine wpTree_q 6 hTok hOps (by kernel_rfl) rfl rfl ⟨?_, ?_, ?_⟩; rotate_left; (focus (intro wx hSx; (try dsimp only at hSx); go_simp; (try with_reducible rfl))); (simp only [Act.put, List.setIfInBounds_toArray, List.set_cons_zero, List.set_cons_succ]))
                have hTd := hTr.below (Below.refl wr.heap.size wr).drew
                refine wpTree_1 2 hOps (by kernel_rfl) (by decide) rfl (fun K' hK => ?_)
                go_simp
                refine (tfront_any i wr.drew hTd hcz9).mono ?_
                rintro e w10 ⟨vf, f, rfl, hvf, hff, hb10⟩
                have hb10d : Below wr.heap.size wr w10 := ((Below.refl wr.heap.size wr).drew).trans (hb10.mono (Nat.le_refl _))
                obtain ⟨af, cf, hvf2, hsf⟩ := hvf.sla
                obtain ⟨ag, cg2, hvg2, hsg⟩ := OwnT.sla (w := w10) (base := w5.heap.size) ⟨hFo.1.below hb10d (Nat.le_refl _), hFo.2⟩
                obtain ⟨hag, hcg2⟩ : r.ao = ag ∧ r.cap = cg2 := by simpa using hvg2
                rw [← hag, ← hcg2] at hsg
                have hft : f = r.f := IsFront.unique (IsFront.congr (times_mem hsame) hff) hFr
                have hst := sameTimes_any f r.f af r.ao cf r.cap w10 w10.heap.size (Nat.le_refl _) hsf hsg
                rw [show sameTs f r.f = true by rw [hft]; exact sameTs_self _] at hst
                have hbr10 := hbr.trans (hb10d.mono hszr)
                have cel10 := (hb10d.cell (World.lt_of_cell cel)).trans cel
                subst hvf2
                replace hft := Lib.hid hft
                replace hst := Lib.hid hst
                clear hvf hff hsf hsg hvg2 hag hcg2 hTd
                dsimp only
                refine hK.out _ _ cel10 ?_
                clear hK K'
                try simp only [Act.put, List.setIfInBounds_toArray, List.set_cons_zero, List.set_cons_succ]
                refine wpTree_nil hOps (by kernel_rfl) ?_
                refine hT.out _ _ ?_
                simp only [List.drop_succ_cons, List.drop_zero]
                clear hHeld hTok hOps hT cel
                go_wp2_with fail
                refine hst.out.mono ?_
                rintro e w11 ⟨rfl, hb11⟩
                have hbr11 := hbr10.trans (hb11.mono hbr10.size)
                dsimp only
                go_wp2_with fail
                go_roundw
                case rel => exact ⟨i + 1, by omega, by go_num, hbr11⟩
                case measure => simp [intOf]; omega
              · go_wp2_with fail
                go_ret
                exact ⟨rfl, hbel9.trans (hbr.mono hsz9)⟩
      · have hT7 := hT6.below (hbad (by rw [← hue]; exact hE))
        have hq : (ue2 == 0) = false := by simpa using hE
        have hsame : ∀ s, s ∈ aliveC cs ↔ s ∈ aliveC cs := fun s => Iff.rfl
        replace hue := Lib.hid hue
        clear hE hbad hgood hc7 hT6 hA6 hbel6 hU hW
        obtain ⟨cs3, hcs3⟩ : ∃ cs3, cs3 = cs := ⟨_, rfl⟩
        have hT9 : Tr w7 w1.heap.size tb x ops cs3 := by rw [hcs3]; exact hT7
        replace hsame : ∀ s, s ∈ aliveC cs3 ↔ s ∈ aliveC cs := fun s => by rw [hcs3]
        have hcz9 : (cs3.length + 1) * 24 ≤ 140737488355328 := by rw [hcs3]; exact hcz
        obtain ⟨w9, hw9⟩ : ∃ w9, w9 = w7 := ⟨_, rfl⟩
        subst hw9
        have hbel9 := hbel7
        have hA9 := hA7
        have hW9 := hW7
        clear hcs3 hT7 hcz hbel7 hA7 hW7
        dsimp only
        obtain ⟨av, cv, hv9, _, _, _⟩ := hW9.own.slice
        rw [hwl.out] at hv9
        subst hv9
        have hsz9 := hbel9.size
        have cg := hA9.cellAt (i := 0) (v := .slice ao n cap) rfl
        go_wp2_with fail
        clear cg
        go_loopw [13] (fun x13 wr => ∃ i : Nat, i ≤ n ∧ x13 = .int .i64 i ∧ Below w9.heap.size w9 wr) (fun x13 _ => n - (intOf x13).toNat)
        case atStart => exact ⟨0, Nat.zero_le _, rfl, Below.refl _ _⟩
        case round =>
          obtain ⟨i, hi9, rfl, hbr⟩ := hrel
          have cg := (hA9.below hbr hA9.lt).cellAt (i := 0) (v := .slice ao n cap) rfl
          by_cases hi : i < n
          · have hix : i < ws.length := by rw [hwl.out]; exact hi
            have hTr := hT9.below hbr
            have hWr := hW9.below hbr
            obtain ⟨r, hr⟩ : ∃ r, ws[i] = r := ⟨_, rfl⟩
            obtain ⟨hFo, hFr⟩ : OwnT wr w5.heap.size (.slice r.ao r.f.length r.cap) r.f ∧ IsFront (timesS ops i (aliveC cs)) r.f := ⟨hWr.rows r (by rw [← hr]; exact List.getElem_mem hix), by rw [← hr]; exact hWr.fr i hix⟩
            obtain ⟨aw, cw, hvw, hsw⟩ := hWr.own.sla (E := fun _ cs x => cs = encF x) encF_len (fun _ _ => rfl)
            have hvw2 : av = aw ∧ n = ws.length ∧ cv = cw := by simpa using hvw
            obtain ⟨rfl, hx9, rfl⟩ := hvw2
            clear hx9
            obtain ⟨b5, off5, rfl, hb5l, _⟩ := hsw.addr (by omega)
            have cel : wr.cell? ⟨b5, off5 + i, none⟩ = some (.slice r.ao r.f.length r.cap) := by
              obtain ⟨cs5, _, h6, h7⟩ := hsw.get i hix
              have h8 := h6 0 (by omega)
              rw [Nat.mul_one, Nat.add_zero] at h8
              rw [h8, h7, hr]
              rfl
            have hszr := hbr.size
            have hbw := hbel9.trans (hbr.mono hsz9)
            clear hr hWr hvw hsw
            go_upto_region 23 with fail
            refine wp_region_tree (fun wx => wx.cell? ⟨b5, off5 + i, none⟩ = some (.slice r.ao r.f.length r.cap)) 7 9 (by kernel_rfl) rfl (by kernel_rfl) (fun d _ _ _ _ h => by cases d <;> exact h) (cel) (fun opz T hOps hT hTok hHeld => ?_)
            (refine wpTree_q 0 hTok hOps (by kernel_rfl) rfl rfl ⟨?_, ?_, ?_⟩; rotate_left; (focus (intro wx hSx; (try dsimp only at hSx); go_simp; (try with_reducible rfl))); (simp only [Act.put, List.setIfInBounds_toArray, List.set_cons_zero, List.set_cons_succ]))
            (refine wpTree_q 1 hTok hOps (by kernel_rfl) rfl rfl ⟨?_, ?_, ?_⟩; rotate_left; (focus (intro wx hSx; (try dsimp only at hSx); go_simp; (try with_reducible rfl))); (simp only [Act.put, List.setIfInBounds_toArray, List.set_cons_zero, List.set_cons_succ]))
            (refine wpTree_q 3 hTok hOps (by kernel_rfl) rfl rfl ⟨?_, ?_, ?_⟩; rotate_left; (focus (intro wx hSx; (try dsimp only at hSx); go_simp; (try with_reducible rfl))); (simp only [Act.put, List.setIfInBounds_toArray, List.set_cons_zero, List.set_cons_succ]))
            (refine wpTree_q 4 hTok hOps (by kernel_rfl) rfl rfl ⟨?_, ?_, ?_⟩; rotate_left; (focus (intro wx hSx; (try dsimp only at hSx); go_simp; (try with_reducible rfl))); (simp only [Act.put, List.setIfInBounds_toArray, List.set_cons_zero, List.set_cons_succ]))
            (refine wpTree_q 5 hTok hOps (by kernel_rfl) rfl rfl ⟨?_, ?_, ?_⟩; rotate_left; (focus (intro wx hSx; (try dsimp only at hSx); go_simp; (try with_reducible rfl))); (simp only [Act.put, List.setIfInBounds_toArray, List.set_cons_zero, List.set_cons_succ]))
            (refine wpTree_q 6 hTok hOps (by kernel_rfl) rfl rfl ⟨?_, ?_, ?_⟩; rotate_left; (focus (intro wx hSx; (try dsimp only at hSx); go_simp; (try with_reducible rfl))); (simp only [Act.put, List.setIfInBounds_toArray, List.set_cons_zero, List.set_cons_succ]))
            have hTd := hTr.below (Below.refl wr.heap.size wr).drew
            refine wpTree_1 2 hOps (by kernel_rfl) (by decide) rfl (fun K' hK => ?_)
            go_simp
            refine (tfront_any i wr.drew hTd hcz9).mono ?_
            rintro e w10 ⟨vf, f, rfl, hvf, hff, hb10⟩
            have hb10d : Below wr.heap.size wr w10 := ((Below.refl wr.heap.size wr).drew).trans (hb10.mono (Nat.le_refl _))
            obtain ⟨af, cf, hvf2, hsf⟩ := hvf.sla
            obtain ⟨ag, cg2, hvg2, hsg⟩ := OwnT.sla (w := w10) (base := w5.heap.size) ⟨hFo.1.below hb10d (Nat.le_refl _), hFo.2⟩
            obtain ⟨hag, hcg2⟩ : r.ao = ag ∧ r.cap = cg2 := by simpa using hvg2
            rw [← hag, ← hcg2] at hsg
            have hft : f = r.f := IsFront.unique (IsFront.congr (times_mem hsame) hff) hFr
            have hst := sameTimes_any f r.f af r.ao cf r.cap w10 w10.heap.size (Nat.le_refl _) hsf hsg
            rw [show sameTs f r.f = true by rw [hft]; exact sameTs_self _] at hst
            have hbr10 := hbr.trans (hb10d.mono hszr)
            have cel10 := (hb10d.cell (World.lt_of_cell cel)).trans cel
            subst hvf2
            replace hft := Lib.hid hft
            replace hst := Lib.hid hst
            clear hvf hff hsf hsg hvg2 hag hcg2 hTd
            dsimp only
            refine hK.out _ _ cel10 ?_
            clear hK K'
            try simp only [Act.put, List.setIfInBounds_toArray, List.set_cons_zero, List.set_cons_succ]
            refine wpTree_nil hOps (by kernel_rfl) ?_
            refine hT.out _ _ ?_
            simp only [List.drop_succ_cons, List.drop_zero]
            clear hHeld hTok hOps hT cel
            go_wp2_with fail
            refine hst.out.mono ?_
            rintro e w11 ⟨rfl, hb11⟩
            have hbr11 := hbr10.trans (hb11.mono hbr10.size)
            dsimp only
            go_wp2_with fail
            go_roundw
            case rel => exact ⟨i + 1, by omega, by go_num, hbr11⟩
            case measure => simp [intOf]; omega
          · go_wp2_with fail
            go_ret
            exact ⟨rfl, hbel9.trans (hbr.mono hsz9)⟩
theorem pback_row {w : World} (cs : Array Value) (x : TGraph) (hx : RGraph w.heap.size w (Value.cells (.agg cs)).toList x) (hz : x.fOps.length * 72 ≤ reachBytes) (hzi : ∀ o ∈ x.fOps, o.fIn.length * 8 ≤ reachBytes)
    (a1 : Option Addr) (len1 cap1 : Nat) (l1 : List TCount) (hl1 : RSl w.heap.size 4 (RCount w.heap.size) w (Value.cells (.slice a1 len1 cap1)).toList l1) (hz1 : cap1 * 32 ≤ reachBytes)
    (a2 : Option Addr) (len2 cap2 : Nat) (l2 : List TCount) (hl2 : RSl w.heap.size 4 (RCount w.heap.size) w (Value.cells (.slice a2 len2 cap2)).toList l2) (hz2 : cap2 * 32 ≤ reachBytes) :
    Calls Try.prog 4 #[.agg cs, .slice a1 len1 cap1, .slice a2 len2 cap2] w fun e w' => e = .returned (.bool true) ∧ Below w.heap.size w w' := by
  obtain ⟨ag, cg, rfl, hs⟩ := graph_agg hx
  obtain ⟨b1, c1, h1, h2⟩ := hl1
  obtain ⟨b2, c2, h3, h4⟩ := hl2
  obtain ⟨rfl, rfl, rfl⟩ : a1 = b1 ∧ len1 = l1.length ∧ cap1 = c1 := by simpa [Value.cells] using h1
  obtain ⟨rfl, rfl, rfl⟩ : a2 = b2 ∧ len2 = l2.length ∧ cap2 = c2 := by simpa [Value.cells] using h3
  have hr : reachBytes = 140737488351232 := rfl
  have hcl := h2.1
  have hcl2 := h4.1
  by_cases hok : (gcheck x.fOps).2 = 0
  · exact pback_ok x.fOps cg ag l1 a1 cap1 l2 a2 cap2 w hs h2 (by omega) h4 (by omega) hok (fun o ho => by have := hzi o ho; omega)
  · exact pback_no x.fOps cg ag _ _ w hs hok
end Go.Proofs.Ytbholbjegfnpdaa
