/- Graph: the walk of Reaches. -/
import Derived.Test.YtmoengfpbgpnfaaGr
import Derived.Test.YtmoengfpbgpnfaaBaseM
import Derived.Test.YtmoengfpbgpnfaaBaseH
import Derived.Deep.Cut
namespace Go.Proofs.Ytmoengfpbgpnfaa
open Go.RowKit Go.Shelf
attribute [local go_sem] Oper.semAt_some
set_option linter.unusedVariables false

theorem reaches_bad (ops : List TOp) (cap : Nat) (ao : Option Addr) (w : World) (B : Nat) (hB : B ≤ w.heap.size) (hx : SlA B 7 (ROp B) w ao cap ops) (hbad : (gcheck ops).2 ≠ 0) :
    Calls Try.prog 13 #[.agg #[.slice ao ops.length cap]] w fun e w' => e = .returned (.slice none 0 0) ∧ Below w.heap.size w w' := by
  have hg := fun W hb => gcheck_all ops cap ao W B (Nat.le_trans hB (Below.size hb)) (imp_ops hx (hb.mono hB))
  obtain ⟨er, her⟩ : ∃ er, er = (gcheck ops).2 := ⟨_, rfl⟩
  rw [← her] at hbad hg
  have hne : ((er : Int) != 0) = true := by simpa using hbad
  obtain ⟨n, hn⟩ : ∃ n, n = ops.length := ⟨_, rfl⟩
  rw [← hn] at hg ⊢
  clear her hn hbad
  go_enter Try.func13, Try.ntmps13
  go_wp2_with fail
  refine (hg _ ((by repeat (first | exact Below.refl _ _ | assumption | refine below_drewN ?_ _ | refine Below.drew ?_ | (refine Below.setCell ?_ (by first | omega | (simp; omega) | simp) _) | (refine Below.alloc ?_ (by first | omega | (simp; omega) | simp) _) | (refine Below.trans ?_ (Below.mono (by assumption) (by first | omega | (simp; omega) | simp))))))).mono ?_
  rintro e w1 ⟨rfl, hb1⟩
  go_wp2_with fail
  go_ret
  exact ⟨rfl, (by repeat (first | exact Below.refl _ _ | assumption | refine below_drewN ?_ _ | refine Below.drew ?_ | (refine Below.setCell ?_ (by first | omega | (simp; omega) | simp) _) | (refine Below.alloc ?_ (by first | omega | (simp; omega) | simp) _) | (refine Below.trans ?_ (Below.mono (by assumption) (by first | omega | (simp; omega) | simp)))))⟩

/-- The state of Reaches in its loop: rows i.. are there. -/
structure RSt (w : World) (nb n cap : Nat) (ao : Option Addr) (wr : World) (i : Nat) (av : Int) (ab : Nat) (rs : List Nat) (f : Nat → Nat → Bool) : Prop where
  part : RPart wr nb (nb + 1) n i rs f
  abx : Blk wr ab #[.int .i64 av] 3
  nbx : Blk wr nb #[.int .i64 n] 3
  obx : Blk wr (nb + 1 + 1) #[.slice (some ⟨nb + 1, 0, none⟩) n n] 40
  gbx : Blk wr w.heap.size #[.slice ao n cap] 24
  bel : Below w.heap.size w wr
  abn : nb < ab
  nlt : w.heap.size < nb
namespace RSt
variable {w : World} {nb n cap : Nat} {ao : Option Addr} {wr wr' : World} {i : Nat} {av : Int} {ab : Nat} {rs : List Nat} {f g : Nat → Nat → Bool}
theorem chg {S : Nat → Prop} (h : RSt w nb n cap ao wr i av ab rs f) (k : Chg S wr wr') (hS : ∀ b, S b → b < wr.heap.size → w.heap.size ≤ b ∧ ∀ cs T, ¬ Blk wr b cs T) : RSt w nb n cap ao wr' i av ab rs f := by
  have hb : ∀ {b cs T}, Blk wr b cs T → ¬ S b := fun hb hs => (hS _ hs hb.lt).2 _ _ hb
  exact ⟨h.part.chg k (fun b _ _ hm => by
      rcases hm with rfl | hm
      · exact hb h.part.hdr
      · obtain ⟨j, hj, e⟩ := List.getElem_of_mem hm
        rw [← e]
        exact hb (h.part.rows j hj).2.2), h.abx.chg k (hb h.abx), h.nbx.chg k (hb h.nbx), h.obx.chg k (hb h.obx), h.gbx.chg k (hb h.gbx),
    h.bel.trans (k.below h.bel.size (fun b hbl hs => by
      rcases Nat.lt_or_ge b wr.heap.size with h1 | h1
      · have := (hS b hs h1).1; omega
      · have := h.bel.size; omega)), h.abn, h.nlt⟩
theorem congr (h : RSt w nb n cap ao wr i av ab rs f) (hfg : ∀ x c, i ≤ x → x < n → c < n → f x c = g x c) : RSt w nb n cap ao wr i av ab rs g := ⟨h.part.congr hfg, h.abx, h.nbx, h.obx, h.gbx, h.bel, h.abn, h.nlt⟩
theorem setRow (h : RSt w nb n cap ao wr i av ab rs f) {x c r : Nat} (hx : i ≤ x) (hr : rs[x - i]? = some r) (hc : c < n) (b : Bool) : RSt w nb n cap ao (wr.setCell ⟨r, c, none⟩ (.bool b)) i av ab rs (fun y d => if y = x ∧ d = c then b else f y d) := by
  obtain ⟨h1, h2, h3⟩ := h.part.rblk hx hr
  have hn := h.nlt
  exact ⟨h.part.set hx hr hc b, h.abx.set_other (blk_ne h.abx h1 (by decide)) _, h.nbx.set_other (blk_ne h.nbx h1 (by decide)) _, h.obx.set_other (blk_ne h.obx h1 (by decide)) _, h.gbx.set_other (blk_ne h.gbx h1 (by decide)) _,
    h.bel.setCell (p := ⟨r, c, none⟩) (by simp; omega) _, h.abn, h.nlt⟩
theorem own {β : Type} {B : Nat} (F : β → Nat → Nat → Bool) (hB : w.heap.size ≤ B) : OwnFrom B (fun s W => RSt w nb n cap ao W i av ab rs (F s)) := fun s X Y row hs hg hr =>
  hs.chg (Chg.of_grown hg) (fun b e _ => by
    obtain ⟨h1, o, h2, h3⟩ := hr b e
    refine ⟨by omega, fun cs T hb => ?_⟩
    unfold Blk at hb
    rw [hb] at h2
    cases h2
    cases h3)
end RSt
theorem ownFrom_marks {β : Type} {B B0 : Nat} {ds : List Deferred} (h : ∀ d ∈ ds, ∃ D, d = { target := .collected D, args := #[] } ∧ D < B) : OwnFrom B (fun (_ : β) W => Marks B0 ds W) := fun _ X Y row hs hg hr =>
  hs.kept fun D _ hD hm => by
    obtain ⟨D', e, hlt⟩ := h _ hm
    injection e with e1 e2
    injection e1 with e1
    refine (hg.block D (Array.getElem?_eq_some_iff.1 hD).1 (fun e => ?_)).trans hD
    have := (hr D e.symm).1
    omega
theorem keepS_put {S : Nat → Prop} {W : World} {l : Nat} (o' : Obj) (hl : ¬ S l) : KeepS S W (W.putObj l o') :=
  ⟨rfl, rfl, rfl, by simp [World.putObj], fun k hk => by
    have : k ≠ l := fun e => hl (e ▸ hk)
    simp [World.putObj, Ne.symm this]⟩
theorem keepS_chg {S T : Nat → Prop} {W W' : World} (h : Chg T W W') (hS : ∀ k, S k → k < W.heap.size ∧ ¬ T k) : KeepS S W W' :=
  ⟨h.os, h.tape, h.output, h.size, fun k hk => h.block k (hS k hk).1 (hS k hk).2⟩

def rMeas (a : Act) (W : World) : Nat := match a.tmps.getD 7 undef with
  | .pointer (some p) => (intOf ((W.cell? p).getD undef) + 1).toNat
  | _ => 0
def RRel (w : World) (nb n cap : Nat) (ao : Option Addr) (ops : List TOp) (us : List Value) (ds : List Deferred) (wr : World) : Prop :=
  ∃ (i ab : Nat) (rs : List Nat) (x24 x25 x26 x27 x28 x29 x30 x31 x32 x33 x34 x35 x36 x37 x38 x39 x40 x41 x71 : Value), us = [.pointer (some ⟨ab, 0, none⟩), x24, x25, x26, x27, x28, x29, x30, x31, x32, x33, x34, x35, x36, x37, x38, x39, x40, x41, x71] ∧ RSt w nb n cap ao wr i ((i : Int) - 1) ab rs (rch ops) ∧ Marks w.heap.size ds wr
theorem RSt.next {w : World} {nb n cap : Nat} {ao : Option Addr} {W : World} {i : Nat} {av av' : Int} {ab : Nat} {rs : List Nat} {f : Nat → Nat → Bool} (h : RSt w nb n cap ao W i av ab rs f) : RSt w nb n cap ao (W.alloc (.cells #[.int .i64 av'] 3)) i av' W.heap.size rs f :=
  ⟨h.part.chg ((Chg.refl (fun _ => False) W).alloc _) (fun _ _ _ _ h => h), Blk.new _ _ _, h.nbx.alloc _, h.obx.alloc _, h.gbx.alloc _, h.bel.alloc h.bel.size _, h.nbx.lt, h.nlt⟩

theorem blk_shut {B b : Nat} {w w' : World} {cs : Array Value} {T : TypeId} (h : Blk w b cs T) (hs : ShutM B w w') : Blk w' b cs T := by
  have := hs.same b h.noDef
  unfold Blk at *
  rw [this, h]
theorem RPart.shut {B : Nat} {w w' : World} {base hb n i : Nat} {rs : List Nat} {f : Nat → Nat → Bool} (h : RPart w base hb n i rs f) (hs : ShutM B w w') : RPart w' base hb n i rs f :=
  ⟨blk_shut h.hdr hs, h.len, h.hbase, fun j hj => ⟨(h.rows j hj).1, (h.rows j hj).2.1, blk_shut (h.rows j hj).2.2 hs⟩, h.nodup⟩

set_option maxRecDepth 100000 in
set_option maxHeartbeats 4000000 in
theorem reaches_ok (ops : List TOp) (cap : Nat) (ao : Option Addr) (w : World) (B : Nat) (hB : B ≤ w.heap.size) (hx : SlA B 7 (ROp B) w ao cap ops) (hok : (gcheck ops).2 = 0) :
    Calls Try.prog 13 #[.agg #[.slice ao ops.length cap]] w fun e w' => ∃ v, e = .returned v ∧ RowsB w' w.heap.size v ops.length (rch ops) ∧ Below w.heap.size w w' := by
  have hG := okG_of_check hok
  have hg := fun W hb => gcheck_all ops cap ao W B (Nat.le_trans hB (Below.size hb)) (imp_ops hx (hb.mono hB))
  rw [hok] at hg
  have hpos := hG.pos
  have hmost := hG.most
  obtain ⟨n, hn⟩ : ∃ n, n = ops.length := ⟨_, rfl⟩
  rw [← hn] at hg hpos hmost ⊢
  replace hn := Lib.hid hn
  replace hok := Lib.hid hok
  replace hG := Lib.hid hG
  have hmr := mk_rows n hmost
  have hmb := mk_bools n hmost
  refine calls_of_marks Try.func13 rfl ?_
  simp only [Try.ntmps13, List.size_toArray, List.length_cons, List.length_nil, Nat.reduceAdd, Nat.reduceSub, Array.replicate_succ, Array.replicate_zero, List.push_toArray, List.append_toArray, List.nil_append, List.cons_append]
  go_wp2_with fail
  refine (hg _ ((by repeat (first | exact Below.refl _ _ | assumption | refine below_drewN ?_ _ | refine Below.drew ?_ | (refine Below.setCell ?_ (by first | omega | (simp; omega) | simp) _) | (refine Below.alloc ?_ (by first | omega | (simp; omega) | simp) _) | (refine Below.trans ?_ (Below.mono (by assumption) (by first | omega | (simp; omega) | simp))))))).mono ?_
  rintro e w1 ⟨rfl, hb1⟩
  have hgb : Blk w1 w.heap.size #[.slice ao n cap] 24 := (Blk.new _ _ _).below hb1 (by simp)
  have hbel : Below w.heap.size w w1 := (by repeat (first | exact Below.refl _ _ | assumption | refine below_drewN ?_ _ | refine Below.drew ?_ | (refine Below.setCell ?_ (by first | omega | (simp; omega) | simp) _) | (refine Below.alloc ?_ (by first | omega | (simp; omega) | simp) _) | (refine Below.trans ?_ (Below.mono (by assumption) (by first | omega | (simp; omega) | simp)))))
  have cg := hgb.cellAt (i := 0) (v := .slice ao n cap) rfl
  clear hb1 hg
  have hN1 : w.heap.size < w1.heap.size := hgb.lt
  go_wp2_with fail
  refine Code.wp_world ?_
  intro w2 hw2
  have hL : RSt w w1.heap.size n cap ao w2 n ((n : Int) - 1) (w1.heap.size + 1 + 1 + 1) [] (rch ops) := by
    refine ⟨?_, ?_, ?_, ?_, ?_, ?_, by omega, hN1⟩
    · rw [hw2]
      have h1 := rpart_new (w1.alloc (.cells #[.int .i64 n] 3)) n w1.heap.size (rch ops) (by simp)
      rw [World.size_alloc] at h1
      exact (h1.chg ((Chg.refl (fun _ => False) _).alloc _) (by simp)).chg ((Chg.refl (fun _ => False) _).alloc _) (by simp)
    · rw [hw2]
      have := Blk.new (((w1.alloc (.cells #[.int .i64 n] 3)).alloc (.cells (Array.replicate n (.slice none 0 0)) 42)).alloc (.cells #[.slice (some ⟨w1.heap.size + 1, 0, none⟩) n n] 40)) #[.int .i64 ((n : Int) - 1)] 3
      simp only [World.size_alloc] at this
      exact this
    · rw [hw2]; exact (((Blk.new _ _ _).alloc _).alloc _).alloc _
    · rw [hw2]
      have := (Blk.new ((w1.alloc (.cells #[.int .i64 n] 3)).alloc (.cells (Array.replicate n (.slice none 0 0)) 42)) #[.slice (some ⟨w1.heap.size + 1, 0, none⟩) n n] 40).alloc (.cells #[.int .i64 ((n : Int) - 1)] 3)
      simp only [World.size_alloc] at this
      exact this
    · rw [hw2]; exact (((hgb.alloc _).alloc _).alloc _).alloc _
    · rw [hw2]; exact (by repeat (first | exact Below.refl _ _ | assumption | refine below_drewN ?_ _ | refine Below.drew ?_ | (refine Below.setCell ?_ (by first | omega | (simp; omega) | simp) _) | (refine Below.alloc ?_ (by first | omega | (simp; omega) | simp) _) | (refine Below.trans ?_ (Below.mono (by assumption) (by first | omega | (simp; omega) | simp)))))
  clear hw2 hgb hbel cg
  obtain ⟨nb, hnb⟩ : ∃ nb, nb = w1.heap.size := ⟨_, rfl⟩
  rw [← hnb] at hL hN1 ⊢
  clear hnb w1
  refine wp_loopM [7, 24, 25, 26, 27, 28, 29, 30, 31, 32, 33, 34, 35, 36, 37, 38, 39, 40, 41, 71]
    (RRel w nb n cap ao ops) rMeas ?start ?round
  case start => exact ⟨n, _, _, _, _, _, _, _, _, _, _, _, _, _, _, _, _, _, _, _, _, _, rfl, hL, trivial⟩
  case round =>
    clear hL
    rintro us ds wr ⟨i, ab, rs, x24, x25, x26, x27, x28, x29, x30, x31, x32, x33, x34, x35, x36, x37, x38, x39, x40, x41, x71, rfl, hL, hM⟩
    simp only [setAll, List.set_cons_succ, List.set_cons_zero]
    have ca := hL.abx.cellAt (i := 0) (v := .int .i64 ((i : Int) - 1)) rfl
    have cn := hL.nbx.cellAt (i := 0) (v := .int .i64 n) rfl
    have co := hL.obx.cellAt (i := 0) (v := .slice (some ⟨nb + 1, 0, none⟩) n n) rfl
    have cg := hL.gbx.cellAt (i := 0) (v := .slice ao n cap) rfl
    by_cases hi : 0 < i
    · obtain ⟨a, rfl⟩ : ∃ a, i = a + 1 := ⟨i - 1, by omega⟩
      have ha1 : ((a + 1 : Nat) : Int) - 1 = a := by omega
      rw [ha1] at ca
      have han : a < n := by have := hL.part.len; omega
      have hca := Lib.hid ca
      have hlt : wr.heap.size ≥ 0 := Nat.zero_le _
      have hax : Blk wr ab #[.int .i64 a] 3 := by have := hL.abx; rwa [ha1] at this
      go_wp2_with fail
      refine wp_region_calm (fun wx => wx.cell? ⟨nb + 1 + 1, 0, none⟩ = some (.slice (some ⟨nb + 1, 0, none⟩) n n) ∧ wx.cell? ⟨ab, 0, none⟩ = some (.int .i64 a) ∧ wx.cell? ⟨nb, 0, none⟩ = some (.int .i64 n)) 4 [3] (by kernel_rfl) (by kernel_rfl) (fun d _ _ _ _ h => by cases d <;> exact h) ⟨co, ca, cn⟩ (fun hHeld => ?_)
      simp only [List.take_succ_cons, List.take_zero, List.drop_succ_cons, List.drop_zero]
      iterate 3 (refine wpCalm_q0 rfl rfl ⟨?_, ?_, ?_⟩; rotate_left; (focus (intro wx hSx; (try dsimp only at hSx); go_simp; (try with_reducible rfl))); (simp only [Act.put, List.setIfInBounds_toArray, List.set_cons_zero, List.set_cons_succ]))
      refine wpCalm_s rfl rfl (fun K' hK => ?_)
      go_simp
      refine hK.out _ _ ⟨(Blk.drew (hL.obx.alloc _)).cellAt rfl, (Blk.drew (hax.alloc _)).cellAt rfl, (Blk.drew (hL.nbx.alloc _)).cellAt rfl⟩ ?_
      clear hK K'
      try simp only [Act.put, List.setIfInBounds_toArray, List.set_cons_zero, List.set_cons_succ]
      refine wpCalm_nil ?_
      have hpd : RPart wr.drew nb (nb + 1) n (a + 1) rs (rch ops) := hL.part.chg ((Chg.refl (fun _ => False) wr).drew) (fun _ _ _ _ h => h)
      have hbs : nb ≤ wr.heap.size := Nat.le_of_lt hL.nbx.lt
      have hfz := (Blk.drew (hL.part.hdr.alloc (.cells (Array.replicate n (.bool false)) 4))).frozen
      have hhc : ((wr.alloc (.cells (Array.replicate n (.bool false)) 4)).drew).cell? ⟨nb + 1, a, none⟩ = some (.slice none 0 0) := (Blk.drew (hL.part.hdr.alloc _)).cellAt hdrV_nil
      go_upto_region 10 with fail
      refine Code.wp_world ?_
      intro w5 hw5
      obtain ⟨r, hr⟩ : ∃ r, r = wr.heap.size := ⟨_, rfl⟩
      have hP5 := RPart.push hpd hbs
      have hc5 : Chg (fun k => k = nb + 1) wr w5 := by
        rw [hw5]; exact (((Chg.refl (fun k => k = nb + 1) wr).alloc _).setCell ⟨nb + 1, a, none⟩ _ (fun _ => rfl)).drew
      have h1b := hL.part.hdr
      have hS5 : RSt w nb n cap ao w5 a a ab (r :: rs) (fun y d => if y = a then false else rch ops y d) := by
        refine ⟨?_, hax.chg hc5 (fun e => blk_ne hax h1b (by decide) e), hL.nbx.chg hc5 (fun e => blk_ne hL.nbx h1b (by decide) e), hL.obx.chg hc5 (fun e => blk_ne hL.obx h1b (by decide) e), hL.gbx.chg hc5 (fun e => blk_ne hL.gbx h1b (by decide) e), hL.bel.trans (hc5.below hL.bel.size (fun k hk e => by have := hL.nlt; omega)), hL.abn, hL.nlt⟩
        rw [hw5, hr]
        exact hP5
      have hM5 : Marks w.heap.size ds w5 := hM.chg hc5 (fun k e x => by rw [e]; exact h1b.noDef x)
      rw [← hr]
      clear hw5 hP5 hc5 h1b hL hM hax hr hpd hbs hfz hhc hHeld ca co cn cg
      have co := hS5.obx.cellAt (i := 0) (v := .slice (some ⟨nb + 1, 0, none⟩) n n) rfl
      have ca := hS5.abx.cellAt (i := 0) (v := .int .i64 a) rfl
      have hr0 : (r :: rs)[a - a]? = some r := by rw [Nat.sub_self]; rfl
      have ch : w5.cell? ⟨nb + 1, a, none⟩ = some (.slice (some ⟨r, 0, none⟩) n n) := by
        obtain ⟨r', h1, h2⟩ := hS5.part.hcell (Nat.le_refl a) han
        rw [hr0] at h1
        cases h1
        exact h2
      have crr := hS5.part.rcell (Nat.le_refl a) hr0 han
      have crf := (hS5.part.rblk (Nat.le_refl a) hr0).1.frozen
      refine wp_region_quiet_tail 6 (by kernel_rfl) (by kernel_rfl) ?_
      simp only [List.take_succ_cons, List.take_zero, List.drop_succ_cons, List.drop_zero]
      repeat (go_big_quiet_step (fail))
      refine wpQuiet_nil ?_
      intro _ hw'
      obtain ⟨nq2, hw''⟩ := hw'
      subst hw''
      go_upto_region 11 with fail
      refine Code.wp_world ?_
      intro w6 hw6
      have hS6 : RSt w nb n cap ao w6 a a ab (r :: rs) (fun y d => if y = a then rowTo ops a (([] : List (UseOf ops a)).map (·.1)) d else rch ops y d) := by
        rw [hw6]
        refine RSt.congr (RSt.chg (hS5.setRow (Nat.le_refl a) hr0 han true) ((Chg.refl (fun _ => False) _).drewN nq2) (fun _ h => h.elim)) ?_
        intro x c h1 h2 h3
        by_cases hxa : x = a
        · subst hxa
          by_cases hca : c = x
          · subst hca; simp [rowTo]
          · simp [rowTo, hca, Ne.symm hca]
        · simp [hxa]
      have hM6 : Marks w.heap.size ds w6 := by
        rw [hw6]
        exact hM5.chg (((Chg.refl (fun k => k = r) w5).drewN nq2).setCell _ _ (fun _ => rfl)) (fun k e x => by rw [e]; exact (hS5.part.rblk (Nat.le_refl a) hr0).1.noDef x)
      clear hw6 hM5 hS5 co ca ch crr crf
      have cg := hS6.gbx.cellAt (i := 0) (v := .slice ao n cap) rfl
      have ca := hS6.abx.cellAt (i := 0) (v := .int .i64 a) rfl
      go_wp2_with fail
      refine (callsIn_wide.1 (uses_in Fence.wide 8 trivial rfl ao n cap a w6)).mono ?_
      rintro e w7 ⟨rfl, hw7⟩
      clear cg ca
      have hc7 : Chg (fun _ => False) w6 w7 := by rw [hw7]; exact ((Chg.refl _ _).alloc _).alloc _
      have hS7 := hS6.chg hc7 (fun _ h => h.elim)
      have hM7 := hM6.chg hc7 (fun _ h => h.elim)
      have hu1 : Blk w7 w6.heap.size #[.slice ao n cap] 24 := by rw [hw7]; exact (Blk.new _ _ _).alloc _
      have hu2 : Blk w7 (w6.heap.size + 1) #[.int .i64 a] 3 := by
        rw [hw7]
        have := Blk.new (w6.alloc (.cells #[.slice ao n cap] 24)) #[.int .i64 a] 3
        rwa [World.size_alloc] at this
      obtain ⟨ub, hub⟩ : ∃ ub, ub = w6.heap.size := ⟨_, rfl⟩
      have hub2 : r < ub := by rw [hub]; exact (hS6.part.rblk (Nat.le_refl a) hr0).1.lt
      have hub3 : w.heap.size ≤ ub := by rw [hub]; exact hS6.bel.size
      rw [← hub] at hu1 hu2 ⊢
      clear hw7 hc7 hS6 hM6 hub w5 w6
      go_upto_region 100 with fail
      obtain ⟨m, hm⟩ : ∃ m, m = w7.heap.size := ⟨_, rfl⟩
      have hxm := imp_ops hx (hS7.bel.mono hB)
      have hu1l := hu1.lt
      have hu2l := hu2.lt
      have c1 := hu1.cellAt (i := 0) (v := .slice ao n cap) rfl
      have c2 := hu2.cellAt (i := 0) (v := .int .i64 a) rfl
      rw [hn.out] at c1
      have hsq := uses_stops Fence.wide (8 - 1) trivial rfl (by omega) ub (ub + 1) B (fun i => i < w.heap.size ∨ i = ub + 1) ops ao cap (a : Int) w7
        (fun i hi => .inl (Nat.lt_of_lt_of_le hi hB)) (.inr rfl) (fun i hi => by have := hS7.bel.size; rcases hi with hi | rfl <;> omega) hu1l hxm c1 c2
      have hMl := hM7.lt
      refine (wpIn_wide (n := 8)).1 ?_
      refine wpIn_rangeFunc_ownG (α := UseOf ops a) rfl (by omega) (gf := 21) (lb := #[.pointer (some ⟨ub, 0, none⟩), .pointer (some ⟨ub + 1, 0, none⟩)]) rfl trivial (enters_of Try.func21 (by kernel_rfl) rfl)
        hsq KeepS.trans (fun W l o o' h1 h2 h3 h4 => keepS_put o' (by rintro (h | h) <;> omega)) (Below.refl _ _) (fun _ => rfl)
        (fun pre W => RSt w nb n cap ao W a a ab (r :: rs) (fun y d => if y = a then rowTo ops a (pre.map (·.1)) d else rch ops y d) ∧ Marks w.heap.size ds W ∧ w7.heap.size ≤ W.heap.size)
        (fun _ _ _ => False) (OwnFrom.and (RSt.own _ hS7.bel.size) (OwnFrom.and (ownFrom_marks hMl) (fun s X Y row hs hg hr => Nat.le_trans hs hg.size))) (fun _ _ _ _ _ h _ _ => h) ⟨hS7, hM7, Nat.le_refl _⟩ ?a1 ?assign ?body ?done ?stop
      case assign =>
        intro l x W K hK
        gi_wp2
        exact hK
      case stop =>
        rintro D c pre W _ _ h _
        exact h.elim
      case done =>
        rintro D ys W hD hys ⟨hS8, hM8, hz8⟩ hK
        have hM9 : Marks w.heap.size ({ target := .collected D, args := #[] } :: ds) W := ⟨D, rfl, by have := hS7.bel.size; omega, hK, fun e he => by
          obtain ⟨D', rfl, h1⟩ := hMl e he
          intro e
          injection e with e1 e2
          injection e1 with e1
          omega, hM8⟩
        have hS9 : RSt w nb n cap ao W a a ab (r :: rs) (rch ops) := hS8.congr (fun y d h1 h2 h3 => by
          by_cases hya : y = a
          · subst hya
            rw [if_pos rfl, hys, rowTo_all]
          · rw [if_neg hya])
        clear hS8 hM8 hS7 hM7 hMl hsq hxm hu1 hu2 c1 c2 hys hu1l hu2l hub2 hub3 hm hD hK hz8 w7
        have ca := hS9.abx.cellAt (i := 0) (v := .int .i64 a) rfl
        dsimp only
        go_wp2_with fail
        refine ⟨by exact ⟨[.pointer (some ⟨W.heap.size, 0, none⟩), _, _, _, _, _, _, _, _, _, _, _, _, _, _, _, _, _, _, _], _, (by simp only [setAll, List.set_cons_succ, List.set_cons_zero]; rfl), ⟨a, W.heap.size, r :: rs, _, _, _, _, _, _, _, _, _, _, _, _, _, _, _, _, _, _, _, rfl, hS9.next, hM9.chg ((Chg.refl (fun _ => False) W).alloc _) (fun _ h => h.elim)⟩⟩, ?mea⟩
        case mea =>
          simp [rMeas, hca.out, intOf]
      case body =>
        rintro l pre x W ⟨hS8, hM8, hz8⟩ _
        have cn := hS8.nbx.cellAt (i := 0) (v := .int .i64 n) rfl
        obtain ⟨⟨b, kx⟩, hxu⟩ := x
        have hbn := uses_lt hG.out hxu
        rw [← hn.out] at hbn
        dsimp only at hbn ⊢
        have hsz : w.heap.size ≤ r := by have := (hS8.part.rblk (Nat.le_refl a) hr0).2.1; omega
        gi_wp2
        gi_loopw [45] (fun c wx => ∃ k : Nat, k ≤ n ∧ c = .int .i64 k ∧ Chg (fun b => b = r) W wx ∧ RSt w nb n cap ao wx a a ab (r :: rs) (fun y d => if y = a then (if d < k then rowTo ops a (pre.map (·.1) ++ [(b, kx)]) d else rowTo ops a (pre.map (·.1)) d) else rch ops y d)) (fun c _ => n - (intOf c).toNat)
        case atStart => exact ⟨0, Nat.zero_le _, rfl, Chg.refl _ _, by simpa using hS8⟩
        case round =>
          obtain ⟨k, hk, rfl, hcx, hSx⟩ := hrel
          have hsw : w.heap.size < r := by have := (hS8.part.rblk (Nat.le_refl a) hr0).2.1; have := hS8.nlt; omega
          by_cases hkn : k < n
          · have co := hSx.obx.cellAt (i := 0) (v := .slice (some ⟨nb + 1, 0, none⟩) n n) rfl
            have ca := hSx.abx.cellAt (i := 0) (v := .int .i64 a) rfl
            have ch : wr.cell? ⟨nb + 1, a, none⟩ = some (.slice (some ⟨r, 0, none⟩) n n) := by
              obtain ⟨r', h1, h2⟩ := hSx.part.hcell (Nat.le_refl a) han
              rw [hr0] at h1
              cases h1
              exact h2
            obtain ⟨rb, hrb, chb⟩ := hSx.part.hcell (x := b) (by omega) hbn.2
            have c1 := hSx.part.rcell (Nat.le_refl a) hr0 hkn
            have c2 := hSx.part.rcell (x := b) (by omega) hrb hkn
            simp only [if_true, Nat.lt_irrefl, if_false] at c1
            simp only [show b ≠ a by omega, if_false] at c2
            have crf := (hSx.part.rblk (Nat.le_refl a) hr0).1.frozen
            have hset := fun v => hSx.setRow (Nat.le_refl a) hr0 hkn v
            have hne : b ≠ a := by omega
            have hab2 : a < b := hbn.1
            have hbn2 : b < n := hbn.2
            have hfin : ∀ v, v = (rowTo ops a (pre.map (·.1)) k || rch ops b k) → ∀ q, RSt w nb n cap ao ((wr.drewN q).setCell ⟨r, k, none⟩ (.bool v)) a a ab (r :: rs) (fun y d => if y = a then (if d < k + 1 then rowTo ops a (pre.map (·.1) ++ [(b, kx)]) d else rowTo ops a (pre.map (·.1)) d) else rch ops y d) := by
              intro v hv q
              refine RSt.congr (RSt.chg (hset v) ((Chg.refl (fun _ => False) _).drewN q) (fun _ h => h.elim)) ?_
              intro y d h1 h2 h3
              by_cases hya : y = a
              · subst hya
                by_cases hdk : d = k
                · subst hdk
                  rw [if_pos ⟨rfl, rfl⟩, if_pos rfl, if_pos (Nat.lt_succ_self _), rowTo_snoc, hv]
                · simp only [true_and, if_neg hdk, if_true]
                  by_cases hlt : d < k
                  · rw [if_pos hlt, if_pos (by omega)]
                  · rw [if_neg hlt, if_neg (by omega)]
              · simp [hya]
            have hfc : ∀ v q, Chg (fun b => b = r) W ((wr.drewN q).setCell ⟨r, k, none⟩ v) := fun v q => (hcx.drewN q).setCell _ _ (fun _ => rfl)
            clear hset hcx hSx hS8 hM8 hS7 hM7 hsq hMl hxm hu1 hu2 hx
            generalize rowTo ops a (pre.map (·.1)) k = v1 at *
            generalize rch ops b k = v2 at *
            cases v1 with
            | true =>
              gi_wp2
              refine round_region_quiet_tail _ 22 (by kernel_rfl) (fun h => by obtain ⟨a, w, h⟩ := h; exact h) (by kernel_rfl) (by kernel_rfl) ?_
              simp only [List.take_succ_cons, List.take_zero, List.drop_succ_cons, List.drop_zero]
              repeat (go_big_quiet_step (fail))
              refine wpQuiet_nil ?_
              intro _ hw'
              obtain ⟨nq, hw''⟩ := hw'
              subst hw''
              have hf1 := hfin true (by simp) nq
              have hf2 := hfc (.bool true) nq
              clear hfin hfc
              go_wp2_with fail
              gi_wp2
              go_roundw
              case rel => exact ⟨k + 1, by omega, by go_num, hf2, hf1⟩
              case measure => simp [intOf]; omega
            | false =>
              gi_wp2
              refine round_region_quiet_tail _ 22 (by kernel_rfl) (fun h => by obtain ⟨a, w, h⟩ := h; exact h) (by kernel_rfl) (by kernel_rfl) ?_
              simp only [List.take_succ_cons, List.take_zero, List.drop_succ_cons, List.drop_zero]
              repeat (go_big_quiet_step (fail))
              refine wpQuiet_nil ?_
              intro _ hw'
              obtain ⟨nq, hw''⟩ := hw'
              subst hw''
              have hf1 := hfin v2 (by simp) nq
              have hf2 := hfc (.bool v2) nq
              clear hfin hfc
              go_wp2_with fail
              gi_wp2
              go_roundw
              case rel => exact ⟨k + 1, by omega, by go_num, hf2, hf1⟩
              case measure => simp [intOf]; omega
          · obtain rfl : k = n := by omega
            gi_wp2
            refine ⟨keepsFrom_of_chg hcx (fun j hj _ => ?_), keepS_chg hcx (fun j hj => ?_), ?_, ?_⟩
            · rw [hj]
              exact ⟨_, _, _, (hS8.part.rblk (Nat.le_refl a) hr0).1⟩
            · have h1 := hS8.bel.size
              have h2 := (hS8.part.rblk (Nat.le_refl a) hr0).1.lt
              rcases hj with hj | rfl <;> omega
            · refine RSt.congr hSx ?_
              intro y d h1 h2 h3
              simp [h3]
            · exact ⟨hM8.chg hcx (fun j e x => by rw [e]; exact (hS8.part.rblk (Nat.le_refl a) hr0).1.noDef x), Nat.le_trans hz8 hcx.size⟩
    · obtain rfl : i = 0 := by omega
      have ca2 : wr.cell? ⟨ab, 0, none⟩ = some (.int .i64 (-1)) := by simpa using ca
      clear ca
      go_wp2_with fail
      refine leavesM_marks ds wr hM hL.bel.size (fun w' hs => ⟨_, results_tmp rfl _ _ _, ?_⟩)
      exact ⟨_, rfl, ⟨nb + 1, rs, rfl, (hL.part.base (Nat.le_of_lt hL.nlt)).shut hs⟩, hL.bel.trans hs.below⟩
theorem RPart.own {β : Type} (B base hb n i : Nat) (rs : List Nat) (f : Nat → Nat → Bool) : OwnFrom B (fun (_ : β) W => RPart W base hb n i rs f) := fun _ X Y row hs hg hr =>
  hs.chg (Chg.of_grown hg) (fun b _ _ hm e => by
    obtain ⟨h1, o, h2, h3⟩ := hr b e
    have hb : ∃ cs T, Blk X b cs T := by
      rcases hm with rfl | hm
      · exact ⟨_, _, hs.hdr⟩
      · obtain ⟨j, hj, e⟩ := List.getElem_of_mem hm
        rw [← e]
        exact ⟨_, _, (hs.rows j hj).2.2⟩
    obtain ⟨cs, T, hb⟩ := hb
    unfold Blk at hb
    rw [hb] at h2
    cases h2
    cases h3)
/-- Reaches: rows where the graph is right, none where it isn't. -/
theorem reaches_no (ops : List TOp) (cap : Nat) (ao : Option Addr) (w : World) (B : Nat) (hB : B ≤ w.heap.size) (hx : SlA B 7 (ROp B) w ao cap ops) (hok : (gcheck ops).2 ≠ 0) :
    Calls Try.prog 13 #[.agg #[.slice ao ops.length cap]] w fun e w' => e = .returned (.slice none 0 0) ∧ Below w.heap.size w w' := reaches_bad ops cap ao w B hB hx hok
end Go.Proofs.Ytmoengfpbgpnfaa
