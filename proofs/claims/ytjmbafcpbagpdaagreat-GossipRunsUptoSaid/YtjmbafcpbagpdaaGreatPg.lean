/- Progress: New. -/
import Derived.Test.YtjmbafcpbagpdaaGreatPf
namespace Go.Proofs.YtjmbafcpbagpdaaGreat
open Go.RowKit Go.Maps
set_option linter.unusedVariables false
set_option linter.unusedSimpArgs false
attribute [local go_sem] mk_map

theorem OpsR.base_le' {b b' : Nat} {w : World} {v : Value} {ps : List POp} (h : OpsR b w v ps) (hb : b' ≤ b) : OpsR b' w v ps :=
  ⟨h.1.base_le hb, fun p hp => (h.2 p hp).imp fun k hk => ⟨⟨Nat.le_trans hb hk.1, hk.2⟩, rfl⟩⟩

theorem eql_nil (u : World) (m cap : Nat) : (binOp BinOp.eql 70 (.slice none m cap) (.slice none 0 0)).run Tryz.prog u = .ok (.bool true) u := by kernel_rfl
theorem eql_some (u : World) (a : Addr) (m cap : Nat) : (binOp BinOp.eql 70 (.slice (some a) m cap) (.slice none 0 0)).run Tryz.prog u = .ok (.bool false) u := by kernel_rfl
attribute [local go_sem] eql_nil eql_some

set_option maxRecDepth 100000 in
set_option maxHeartbeats 1000000 in
theorem cloneI (xs : List Int) (ao : Option Addr) (cap B : Nat) (w : World) (hB : B ≤ w.heap.size) (hx : SlA B 1 (RI .i64) w ao cap xs) (hz : xs.length * 8 ≤ 140737488355328) :
    Calls Tryz.prog 28 #[.slice ao xs.length cap] w fun e w' => Below w.heap.size w w' ∧ ∃ v, e = .returned v ∧ OwnL encN w' w.heap.size 3 1 v xs := by
  obtain ⟨jN, hiN, hN0, hN1, hN2⟩ := info_parts infoN
  obtain ⟨m, hm⟩ : ∃ m, m = xs.length := ⟨_, rfl⟩
  rw [← hm]
  cases ao with
  | none =>
    have hm0 : xs = [] := by
      cases xs with
      | nil => rfl
      | cons a r =>
        obtain ⟨b, off, e, _⟩ := hx.addr (by simp)
        cases e
    subst hm0
    simp only [List.length_nil] at hm
    subst hm
    go_enter Tryz.func28, Tryz.ntmps28
    go_wp2_with fail
    go_ret
    exact ⟨Below.refl _ _, _, rfl, OwnL.nil _ _ _ _ _⟩
  | some a =>
    replace hm := Lib.hid hm
    go_enter Tryz.func28, Tryz.ntmps28
    go_wp2_with (at_builtin; refine Shut.out ?ka)
    unfold Shut
    have hown0 : OwnL encN (w.alloc (.cells #[] 3)) w.heap.size 3 1 (.slice (some ⟨w.heap.size, 0, none⟩) 0 0) [] := OwnL.of_blk (xs := []) (cap := 0) (Blk.new w #[] 3) (Nat.le_refl _) (Nat.le_refl 0) (by unfold maxLen; omega) rfl rfl rfl
    have hii2 := ints_sla (in_imp hx ((below_alloc1 w (.cells #[] 3)).mono hB))
    refine wpList_app_sla (xs := []) (ys := xs) (enc := encN) (base := w.heap.size) _ rfl _ _ 70 rfl Tryz.underlying70 hiN hN0 hN1 hN2 rfl (by decide) rfl hown0 (by show Value.slice (some a) m cap = _; rw [hm.out]) hii2 encN_len encN_one (by unfold maxLen; simp; omega) (by simp; omega) (by simp) (fun v3 w3 hown3 hgr3 => ?_)
    rw [List.nil_append] at hown3
    have hb23 : Below w.heap.size w w3 := (below_alloc1 w (.cells #[] 3)).grown hgr3 (by simp) (fun g hg => by simp [Act.eval, Value.ownBlock] at hg; omega)
    clear hown0 hii2 hgr3
    go_wp2_with fail
    go_ret
    exact ⟨hb23, _, rfl, hown3⟩
theorem new_no (ops : List TOp) (cap : Nat) (ao : Option Addr) (w : World) (hx : SlA w.heap.size 7 (ROp w.heap.size) w ao cap ops) (hok : (gcheck ops).2 ≠ 0) :
    Calls Tryz.prog 23 #[.agg #[.slice ao ops.length cap]] w fun e w' => e = .returned (.tuple #[.pointer none, .int .i64 13]) ∧ Below w.heap.size w w' := by
  have hR := fun W hb => reaches_no ops cap ao W w.heap.size (Below.size hb) (imp_ops hx hb) hok
  obtain ⟨n, hn⟩ : ∃ n, n = ops.length := ⟨_, rfl⟩
  rw [← hn] at hR ⊢
  clear hn
  go_enter Tryz.func23, Tryz.ntmps23
  go_wp2_with fail
  refine (hR _ ((Below.refl _ _).alloc (Nat.le_refl _) _)).mono ?_
  rintro e w1 ⟨rfl, hb1⟩
  have hb := ((Below.refl w.heap.size w).alloc (Nat.le_refl _) (.cells #[.slice ao n cap] 24)).trans (hb1.mono (by simp))
  dsimp only
  go_wp2_with fail
  go_ret2
  exact ⟨rfl, hb⟩
/-- The state of New's loop. -/
structure NW (wP wr : World) (ob : Nat) (v : Value) : Prop where
  bel : Below wP.heap.size wP wr
  ho : Blk wr ob #[v] 24
  o1 : wP.heap.size ≤ ob
theorem NW.below {wP wr u : World} {ob : Nat} {v : Value} (h : NW wP wr ob v) (hb : Below wr.heap.size wr u) : NW wP u ob v := ⟨h.bel.trans (hb.mono h.bel.size), h.ho.below hb h.ho.lt, h.o1⟩
theorem NW.chg {wP u u' : World} {ob : Nat} {v : Value} {S : Nat → Prop} (h : NW wP u ob v) (hc : Chg S u u') (hS : ∀ k, k ≤ ob → ¬ S k) : NW wP u' ob v := by
  obtain ⟨hb, ho, o1⟩ := h
  exact ⟨hb.trans (hc.below hb.size (fun k hk => hS _ (by omega))), ho.chg hc (hS _ (Nat.le_refl _)), o1⟩
theorem NW.set {wP u : World} {ob : Nat} {v y : Value} (h : NW wP u ob v) : NW wP (u.setCell ⟨ob, 0, none⟩ y) ob y := by
  obtain ⟨hb, ho, o1⟩ := h
  exact ⟨hb.setCell (by simp; omega) _, ho.set 0 y, o1⟩

set_option maxRecDepth 100000 in
set_option maxHeartbeats 1000000 in
theorem new_ok (xs : List TOp) (ao : Option Addr) (cap : Nat) (w : World) (hx : SlA w.heap.size 7 (ROp w.heap.size) w ao cap xs) (hok : (gcheck xs).2 = 0) (hzi : ∀ o ∈ xs, o.fIn.length * 8 ≤ 140737488355328) :
    Calls Tryz.prog 23 #[.agg #[.slice ao xs.length cap]] w fun e w' => Below w.heap.size w w' ∧ ∃ tb x, e = .returned (.tuple #[.pointer (some ⟨tb, 0, none⟩), .int .i64 0]) ∧ Tr w' w.heap.size tb x xs [] := by
  have hR := fun W hb => reaches_ok xs cap ao W w.heap.size (Below.size hb) (imp_ops hx hb) hok
  have hG := okG_of_check hok
  have hpos := hG.pos
  have hmost := hG.most
  obtain ⟨n, hn⟩ : ∃ n, n = xs.length := ⟨_, rfl⟩
  rw [← hn] at hR hpos hmost ⊢
  have hz : n * 72 ≤ 140737488355328 := by omega
  replace hn := Lib.hid hn
  replace hzi := Lib.hid hzi
  replace hG := Lib.hid hG
  replace hok := Lib.hid hok
  obtain ⟨jO, hiO, hO0, hO1, hO2⟩ := info_parts infoO
  go_enter Tryz.func23, Tryz.ntmps23
  go_wp2_with fail
  refine (hR _ ((Below.refl _ _).alloc (Nat.le_refl _) _)).mono ?_
  rintro e w1 ⟨v, rfl, ⟨hb, rs, rfl, hP⟩, hb1⟩
  have hA1 : Blk w1 w.heap.size #[.slice ao n cap] 24 := (Blk.new w _ _).below hb1 (by simp)
  have hbel1 : Below w.heap.size w w1 := ((Below.refl w.heap.size w).alloc (Nat.le_refl _) (.cells #[.slice ao n cap] 24)).trans (hb1.mono (by simp))
  replace hP := hP.base (base' := w.heap.size) (by simp)
  clear hR hb1
  obtain ⟨ab, hab⟩ : ∃ c, c = w.heap.size := ⟨_, rfl⟩
  rw [← hab] at hA1 ⊢
  replace hab := Lib.hid hab
  have hn0 : ((n : Int) == 0) = false := by rw [beq_eq_false_iff_ne]; omega
  dsimp only
  go_upto_region 5 with fail
  have hW : NW w1 (w1.alloc (.cells #[.slice none 0 0] 24)) w1.heap.size (.slice none 0 0) := ⟨(Below.refl _ _).alloc (Nat.le_refl _) _, Blk.new _ _ _, Nat.le_refl _⟩
  obtain ⟨ob, hob⟩ : ∃ c, c = w1.heap.size := ⟨_, rfl⟩
  rw [← hob] at hW ⊢
  replace hob := Lib.hid hob
  generalize w1.alloc (.cells #[.slice none 0 0] 24) = w2 at hW ⊢
  have ea := (hA1.below hW.bel hA1.lt).cellAt (i := 0) (v := .slice ao n cap) rfl
  go_wp2_with fail
  clear ea
  go_loopw [16] (fun x16 wr => ∃ (i : Nat) (ps : List POp) (v : Value), i ≤ n ∧ x16 = .int .i64 i ∧ NW w1 wr ob v ∧ OpsR (ob + 1) wr v ps ∧ ps.map (·.x) = xs.take i) (fun x16 _ => n - (intOf x16).toNat)
  case atStart => exact ⟨0, [], _, Nat.zero_le _, rfl, hW, OpsR.nil _ _, rfl⟩
  case round =>
    clear hW
    obtain ⟨i, ps, v, hi, rfl, hG, hops, hpm⟩ := hrel
    have hbw := hbel1.trans (hG.bel.mono hbel1.size)
    by_cases hin : i < n
    · have hdi : decide ((i : Int) < (n : Int)) = true := by simp; omega
      have hxi : i < xs.length := by rw [← hn.out]; exact hin
      obtain ⟨b, off, rfl, hb, _⟩ := hx.addr (by omega)
      obtain ⟨o, hxo⟩ : ∃ o, xs[i] = o := ⟨_, rfl⟩
      obtain ⟨ao1, cap1, e0, e1, e2, e3, e4, e5, e6, z0, hii, z2, z3, z4, z5, z6⟩ := ROp.at (imp_ops hx hbw) hxi hxo
      have hti : xs.take (i + 1) = xs.take i ++ [o] := by rw [List.take_add_one, List.getElem?_eq_getElem hxi, hxo]; rfl
      have hzo := hzi.out o (by rw [← hxo]; exact List.getElem_mem hxi)
      have hpsl : ps.length = i := by have := congrArg List.length hpm; rw [List.length_map, List.length_take] at this; omega
      obtain ⟨m, hm⟩ : ∃ m, m = o.fIn.length := ⟨_, rfl⟩
      rw [← hm] at e1
      have hbwr : b < wr.heap.size := Nat.lt_of_lt_of_le hb hbw.size
      replace hxo := Lib.hid hxo
      replace hm := Lib.hid hm
      replace hti := Lib.hid hti
      replace hpm := Lib.hid hpm
      replace hpsl := Lib.hid hpsl
      replace hzo := Lib.hid hzo
      go_upto_region 8 with fail
      refine Code.wp_world ?_
      intro w2 hw2
      obtain ⟨kb, hkb⟩ : ∃ c, c = wr.heap.size := ⟨_, rfl⟩
      have hK2 : Blk w2 kb #[.int .i64 o.fKind, .slice ao1 m cap1, .int .i64 o.fArg, .int .u32 o.fNum, .int .i64 o.fRounds, .int .i64 o.fTest, .int .u32 o.fLim] 73 := by rw [hw2, hkb]; exact Blk.new _ _ _
      have hb2 : Below wr.heap.size wr w2 := by rw [hw2]; exact below_alloc1 _ _
      rw [← hkb]
      have hkb2' : kb < w2.heap.size := hK2.lt
      clear hw2 e0 e1 e2 e3 e4 e5 e6
      have k1 := hK2.cellAt (i := 1) (v := .slice ao1 m cap1) rfl
      replace hkb := Lib.hid hkb
      have hbw2 := hbw.trans (hb2.mono hbw.size)
      have hclone := cloneI o.fIn ao1 cap1 w.heap.size w2 hbw2.size (in_imp hii (hb2.mono hbw.size)) hzo.out
      rw [← hm.out] at hclone
      go_wp2_with fail
      refine hclone.mono ?_
      rintro e w3 ⟨hb23, v3, rfl, hown3⟩
      have hK3 := hK2.below hb23 hK2.lt
      have hwf : ∀ y ∈ o.fIn, (Lit.int IntKind.i64 y).wf = true := fun y hy => by
        obtain ⟨j, hj, rfl⟩ := List.mem_iff_getElem.1 hy
        obtain ⟨b1, o1, rfl, _, _⟩ := hii.addr (by omega)
        exact (in_at hii hj rfl).2
      obtain ⟨ao3, cap3, hv3, hsI⟩ := SlP.of_ints (D := fun k => w2.heap.size ≤ k ∧ k < w3.heap.size) hown3 hwf (fun g hg => hown3.lt g hg)
      subst hv3
      rw [← hm.out]
      clear hown3 k1 hii hK2 hclone
      have f1 := hK3.frozen 1
      have k1 := hK3.cellAt (i := 1) (v := .slice ao1 m cap1) rfl
      dsimp only
      go_upto_region 9 with fail
      refine Code.wp_world ?_
      intro w4 hw4
      have hkbe := hkb.out
      have hs2 := hb2.size
      have hs3 := hb23.size
      have hkb2 : kb < w2.heap.size := hkb2'
      have hK4 : Blk w4 kb #[.int .i64 o.fKind, .slice ao3 m cap3, .int .i64 o.fArg, .int .u32 o.fNum, .int .i64 o.fRounds, .int .i64 o.fTest, .int .u32 o.fLim] 73 := by rw [hw4]; exact hK3.set 1 _
      have hbr : Below wr.heap.size wr w4 := by rw [hw4]; exact (hb2.trans (hb23.mono hb2.size)).setCell (by simp; omega) _
      have hc34 : Chg (fun k => k = kb) w3 w4 := by rw [hw4]; exact (Chg.refl (fun k => k = kb) w3).setCell ⟨kb, 1, none⟩ _ (fun _ => rfl)
      have hs4 := hc34.size
      obtain ⟨p, hp⟩ : ∃ p : POp, p = ⟨o, ao3, cap3⟩ := ⟨_, rfl⟩
      have hpx : p.x = o := by rw [hp]
      have hpI : InP (fun k => wr.heap.size ≤ k ∧ k < w4.heap.size) w4 p := by
        rw [hp]
        exact ⟨⟨z0, hwf, z2, z3, z4, z5, z6⟩, hsI.imp (fun k hk => ⟨⟨by omega, by omega⟩, hc34.block k hk.2 (by omega)⟩) (fun _ _ _ h => h)⟩
      clear hw4 hK3 hc34 hsI k1 f1 hwf
      have hGr := hG.below hbr
      have hopsi := hops.below hbr (Nat.le_refl _)
      obtain ⟨k0', k1', k2', k3', k4', k5', k6'⟩ := blk7 hK4
      have hE6 : w4.cell? ⟨ob, 0, none⟩ = some v := hGr.ho.cellAt rfl
      obtain ⟨aov, capv, hvv2, _, _, _⟩ := hops.1.slice
      subst hvv2
      have hebs : ob + 1 ≤ w4.heap.size := hGr.ho.lt
      have hebq : ob + 1 ≤ wr.heap.size := hG.ho.lt
      rw [hpsl.out] at hE6 hGr hopsi
      have hpe : (#[.int .i64 o.fKind, .slice ao3 m cap3, .int .i64 o.fArg, .int .u32 o.fNum, .int .i64 o.fRounds, .int .i64 o.fTest, .int .u32 o.fLim] : Array Value) = (encO p).toArray := by rw [hp, hm.out]; rfl
      replace hpe := Lib.hid hpe
      replace hp := Lib.hid hp
      replace hpx := Lib.hid hpx
      replace hkbe := Lib.hid hkbe
      clear hkb hK4
      go_wp2_with (at_builtin; refine Shut.out ?kap)
      unfold Shut
      rw [hpe.out]
      refine wpList_app1g rfl _ _ 22 rfl Tryz.underlying22 hiO hO0 hO1 hO2 rfl (by decide) (enc := encO) p rfl hopsi.1 rfl (encO_len _) (encO_one _) (by rw [hpsl.out]; omega) (by rw [hpsl.out]; unfold maxLen; omega) hebs (fun g cap7 w7 hown7 hgr7 => ?_)
      rw [hpsl.out] at hown7 hgr7 ⊢
      have hgc : Chg (fun k => ob + 1 ≤ k) w4 w7 := (Chg.of_grown hgr7.grown).mono (fun k h1 h2 => (hopsi.1.lt k h2).1)
      have hopsq := hops
      rw [hpsl.out] at hopsq
      have hops7 := hopsq.snoc (S := fun _ => False) hebq ((Chg.of_below hbr).mono (fun k h1 h2 => absurd h2 (by omega))) (fun k hk e => e) hown7 hgr7 hpI
      have hG7 := hGr.chg hgc (fun k hk e => by omega)
      have e7' : w7.cell? ⟨ob, 0, none⟩ = some (.slice aov i capv) := hG7.ho.cellAt rfl
      have f7' := hG7.ho.frozen 0
      have hset := (Chg.refl (fun k => k = ob) w7).setCell ⟨ob, 0, none⟩ (.slice (some ⟨g, 0, none⟩) (i + 1) cap7) (fun _ => rfl)
      have hops8 := hops7.chg hset (fun k hk e => by omega)
      have hG8 := hG7.set (y := .slice (some ⟨g, 0, none⟩) (i + 1) cap7)
      clear hgr7 hopsi hops hopsq hG hGr hgc hG7 hown7 hops7 hset hpI k0' k1' k2' k3' k4' k5' k6' hE6
      go_wp2_with fail
      go_roundw
      case rel => exact ⟨i + 1, ps ++ [p], _, by omega, rfl, hG8, hops8, by rw [List.map_append, hpm.out, hti.out, List.map_singleton, hpx.out]⟩
      case measure => simp [intOf]; omega
    · have hdi : decide ((i : Int) < (n : Int)) = false := by simp; omega
      have hie : i = n := by omega
      have hpm2 : ps.map (·.x) = xs := by rw [hpm, hie, hn.out, List.take_length]
      obtain ⟨aov, capv, hvv2, _, _, _⟩ := hops.1.slice
      have hpn : ps.length = n := by rw [hn.out, ← hpm2, List.length_map]
      rw [hpn] at hvv2
      subst hvv2
      have g0 := hG.ho.cellAt (i := 0) (v := .slice aov n capv) rfl
      have hobl := hG.ho.lt
      have hwl := hG.bel.size
      have hPr := hP.below hG.bel (Nat.le_refl _)
      have hwb := hbw.size
      have hobe := hob.out
      have hops9 := hops.base_le' (b' := w.heap.size) (by have := hbel1.size; omega)
      clear hpm hie hpn
      replace hobe := Lib.hid hobe
      go_wp2_with fail
      go_ret2
      refine ⟨(hbw.alloc hwb _).alloc (by simp; omega) _, wr.heap.size + 1, ⟨.slice aov n capv, ps, hb, rs, wr.heap.size⟩, rfl, ?_⟩
      refine ⟨?_, ⟨wr, hops9, by rw [← hn.out]; exact hPr, Nat.le_succ _, Nat.le_refl _, ((Below.refl _ _).alloc (Nat.le_refl _) _).alloc (by rw [World.size_alloc]; exact Nat.le_succ _) _⟩, hpm2, ?_, by simp, by simp, hok.out, Nat.le_succ_of_le hwb, hwb⟩
      · rw [← hn.out]
        have := Blk.new (wr.alloc (.map #[] 0)) #[.slice aov n capv, .slice (some ⟨hb, 0, none⟩) n n, .map (some wr.heap.size)] 105
        rw [World.size_alloc] at this
        exact this
      · exact (MapL.made wr).below ((Below.refl (wr.alloc (.map #[] 0)).heap.size _).alloc (Nat.le_refl _) _) (by rw [World.size_alloc]; exact Nat.lt_succ_self _)
end Go.Proofs.YtjmbafcpbagpdaaGreat
