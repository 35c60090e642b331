/- Reach: the walk of ReachKeeps. -/
import Derived.Test.YtbiakolkcikeiaaRk
import Derived.Test.YtbiakolkcikeiaaOg
namespace Go.Proofs.Ytbiakolkcikeiaa
open Go.RowKit Go.Shelf
set_option linter.unusedVariables false
set_option linter.unusedSimpArgs false

/-- A row of the call's own, whatever it holds. -/
def RowG (T : TypeId) (sz : Nat) (w : World) (base : Nat) (v : Value) (k : Nat) : Prop := ∃ xs, World.ownsRow w base T sz v k xs
section
variable {T : TypeId} {sz : Nat}
theorem RowG.blk {w : World} {base k cap : Nat} {aa : Option Addr} (h : RowG T sz w base (.slice aa k cap) k) (hk : 0 < k) : ∃ g cells, aa = some ⟨g, 0, none⟩ ∧ Blk w g cells T ∧ cells.size = cap * sz ∧ k ≤ cap ∧ cap ≤ maxLen ∧ base ≤ g := by
  obtain ⟨xs, h1, h2⟩ := h
  rcases h2 with ⟨_, h3⟩ | ⟨g, cap', cells, e, hb, hg, hc1, hc2, hc3, _⟩
  · omega
  · simp only [Value.slice.injEq, true_and] at e
    obtain ⟨rfl, rfl⟩ := e
    exact ⟨g, cells, rfl, hg, hc3, hc1, hc2, hb⟩
theorem RowG.of_blk {w : World} {base k cap g : Nat} {cells : Array Value} (h : Blk w g cells T) (hs : cells.size = cap * sz) (hk : k ≤ cap) (hc : cap ≤ maxLen) (hb : base ≤ g) : RowG T sz w base (.slice (some ⟨g, 0, none⟩) k cap) k :=
  ⟨cells.toList.take (k * sz), by rw [List.length_take, Array.length_toList, hs]; exact Nat.min_eq_left (Nat.mul_le_mul_right _ hk), .inr ⟨g, cap, cells, rfl, hb, h, hk, hc, hs, rfl⟩⟩
theorem RowG.lt {w : World} {base k : Nat} {v : Value} (h : RowG T sz w base v k) : ∀ g, v.ownBlock = some g → base ≤ g ∧ g < w.heap.size := by
  obtain ⟨xs, hx⟩ := h
  exact World.ownsRow.lt hx
theorem RowG.chg {S : Nat → Prop} {w w' : World} {base k : Nat} {v : Value} (h : RowG T sz w base v k) (hc : Chg S w w') (hS : ∀ g, v.ownBlock = some g → ¬ S g) : RowG T sz w' base v k := by
  obtain ⟨xs, h1, h2⟩ := h
  refine ⟨xs, h1, ?_⟩
  rcases h2 with h2 | ⟨g, cap', cells, rfl, hb, hg, r⟩
  · exact .inl h2
  · refine .inr ⟨g, cap', cells, rfl, hb, ?_, r⟩
    have : Blk w g cells T := hg
    exact this.chg hc (hS g rfl)
end

theorem es_rs {B : Nat} {w : World} {ao : Option Addr} {cap : Nat} {xs : List TStamp} (h : SlA B 3 (RStamp B) w ao cap xs) : SlA B 3 ES w ao cap xs := es_of h

set_option maxRecDepth 100000 in
set_option maxHeartbeats 4000000 in
theorem rkeeps_walk (ops : List TOp) (cap : Nat) (ao : Option Addr) (L : List TStamp) (c2 : Nat) (ao2 : Option Addr) (l0 e0 r0 : Int) (w : World) (hx : SlA w.heap.size 7 (ROp w.heap.size) w ao cap ops)
    (hl : SlA w.heap.size 3 (RStamp w.heap.size) w ao2 c2 L) (hz : ops.length * 72 ≤ 140737488355328) (hzi : ∀ o ∈ ops, o.fIn.length * 8 ≤ 140737488355328) (hzl : L.length * 24 ≤ 140737488351232) :
    Calls Try.prog 5 #[.agg #[.slice ao ops.length cap], .slice ao2 L.length c2, .agg #[.int .i64 l0, .int .i64 e0, .int .i64 r0]] w fun x w' => x = .returned (.bool true) ∧ Below w.heap.size w w' := by
  have hC := fun W hb => copyGraph_any w.heap.size ops ao cap W (Below.size hb) (imp_ops hx hb) hz hzi
  have hNx := fun W hb => next_any ops cap ao l0 e0 r0 w.heap.size W (Below.size hb) (imp_ops hx hb)
  have hRNx := fun W hb => rnext_any ops cap ao l0 e0 r0 w.heap.size W (Below.size hb) (imp_ops hx hb)
  have hFr := fun (k : Nat) (am : Option Addr) (B : Nat) W (hb : Below w.heap.size w W) (hB : B ≤ W.heap.size) (hwB : w.heap.size ≤ B) (hm : SlA B 3 (RStamp B) W am k L) => pfront_any ops cap ao L k am l0 B W hB (hx.imp hb hwB (fun _ _ _ h => h.imp hb hwB)) hm (by omega)
  have hRFr := fun W hb => rpfront_any ops cap ao L c2 ao2 l0 w.heap.size W (Below.size hb) (imp_ops hx hb) (imp_stamps hl hb) (by omega)
  have hSg := fun ao2 cap2 B W (hb : Below w.heap.size w W) (hwB : w.heap.size ≤ B) (hB : B ≤ W.heap.size) hy => sameGraph_any B ops ops ao ao2 cap cap2 W hB (hx.imp hb hwB (fun _ _ _ h => h.imp hb hwB)) hy
  have hwL : ∀ x ∈ L, ∀ B w', RStamp B w' (encS x) x := wf_stamps hl
  obtain ⟨n, hn⟩ : ∃ n, n = ops.length := ⟨_, rfl⟩
  obtain ⟨m, hm⟩ : ∃ m, m = L.length := ⟨_, rfl⟩
  rw [← hn] at hC hNx hRNx hFr hRFr hSg ⊢
  rw [← hm] at hFr hRFr hzl ⊢
  obtain ⟨i0, hi, hz0, hz1, hz2⟩ := info_parts infoS
  replace hn := Lib.hid hn
  replace hm := Lib.hid hm
  replace hNx := Lib.hid hNx
  replace hRNx := Lib.hid hRNx
  replace hFr := Lib.hid hFr
  replace hRFr := Lib.hid hRFr
  replace hSg := Lib.hid hSg
  replace hC := Lib.hid hC
  replace hwL := Lib.hid hwL
  clear hz hzi
  go_enter Try.func5, Try.ntmps5
  go_wp2_with fail
  refine (known_any _).mono ?_
  rintro x w1 ⟨rfl, b1⟩
  have hg1 : Blk w1 w.heap.size #[.slice ao n cap] 24 := ((Blk.new _ _ _).alloc _).below b1 (by simp; omega)
  have hs1 : Blk w1 (w.heap.size + 1) #[.int .i64 l0, .int .i64 e0, .int .i64 r0] 28 := by
    have := Blk.new (w.alloc (.cells #[.slice ao n cap] 24)) #[.int .i64 l0, .int .i64 e0, .int .i64 r0] 28
    rw [World.size_alloc] at this
    exact this.below b1 (by simp)
  have hbel1 : Below w.heap.size w w1 := (by repeat (first | exact Below.refl _ _ | assumption | refine below_drewN ?_ _ | refine Below.drew ?_ | (refine Below.setCell ?_ (by first | omega | (simp; omega) | simp) _) | (refine Below.alloc ?_ (by first | omega | (simp; omega) | simp) _) | (refine Below.trans ?_ (Below.mono (by assumption) (by first | omega | (simp; omega) | simp)))))
  clear b1
  have cg : w1.cell? ⟨w.heap.size, 0, none⟩ = some (.slice ao n cap) := hg1.cellAt rfl
  go_wp2_with fail
  refine (hC.out _ hbel1).mono ?_
  rintro e w2 ⟨hb2, v, ps, rfl, hps, hpx⟩
  obtain ⟨aw, cw, rfl, hs2⟩ := hps.sla
  rw [hpx] at hs2
  have hpl : ps.length = n := by rw [hn.out, ← hpx, List.length_map]
  rw [hpl]
  have hg2 := hg1.below hb2 hg1.lt
  have hst2 := hs1.below hb2 hs1.lt
  have hbel2 := hbel1.trans (hb2.mono hbel1.size)
  clear hps hpx hpl cg hg1 hs1 hbel1 hb2 w1
  dsimp only
  go_upto_region 4 with fail
  refine Code.wp_world ?_
  intro w3 hw3
  have hw23 : Below w2.heap.size w2 w3 := by rw [hw3]; exact below_alloc3' _ _
  have hg3 := hg2.below hw23 hg2.lt
  have hst3 := hst2.below hw23 hst2.lt
  have hbel3 := hbel2.trans (hw23.mono hbel2.size)
  have hs3 := imp_ops hs2 hw23
  have hb3 : Blk w3 w2.heap.size #[.slice aw n cw] 24 := by rw [hw3]; exact Blk.new _ _ _
  obtain ⟨wb, hwb⟩ : ∃ wb, wb = w2.heap.size := ⟨_, rfl⟩
  have hwbw : w.heap.size ≤ wb := by rw [hwb]; exact hbel2.size
  rw [← hwb] at hs3 hb3 ⊢
  clear hwb hw23 hw3 hg2 hst2 hbel2 hs2 w2
  go_wp2_with (at_builtin; refine Shut.out ?stopa)
  unfold Shut
  refine wpList_app_sla _ rfl _ _ 33 rfl Try.underlying33 hi hz0 hz1 hz2 rfl (by decide) (enc := encS) (xs := []) (ys := L) (B := w.heap.size) (base := w3.heap.size) rfl (own_empty (Blk.new _ _ _) (Nat.le_refl _)) (by rw [← hm.out]; rfl) (es_of (imp_stamps hl (hbel3.alloc hbel3.size _))) encS_len encS_one (by rw [← hm.out]; unfold maxLen; simp <;> omega) (by rw [← hm.out]; simp <;> omega) (by simp) ?_
  intro vi w4 hin hgr4
  rw [List.nil_append] at hin
  have hb34 : Below w3.heap.size w3 w4 := Below.grown ((Below.refl _ _).alloc (Nat.le_refl _) _) hgr4 (by simp) (fun g hg => by have e : some w3.heap.size = some g := hg; simp at e; omega)
  have hS : PSt w w4 ao n cap (w.heap.size + 1) l0 e0 r0 := ⟨hbel3.trans (hb34.mono hbel3.size), hg3.below hb34 hg3.lt, hst3.below hb34 hst3.lt, by omega⟩
  have hw4 := hb3.below hb34 hb3.lt
  have hsw := imp_ops hs3 (hb34.mono (by have := hb3.lt; omega))
  have hwb4 : wb < w4.heap.size := hw4.lt
  obtain ⟨ai, ci, rfl, hini⟩ := hin.sla (E := RStamp w4.heap.size) encS_len (fun x hx => hwL.out x hx _ _)
  rw [← hm.out]
  clear hin hgr4 hb34 hg3 hst3 hs3 hb3 hbel3
  generalize w3.heap.size = z3
  go_upto_region 5 with fail
  have hsb4 := hS.bel.size
  refine wp_region_tree (fun wx => wx.cell? ⟨w.heap.size, 0, none⟩ = some (.slice ao n cap) ∧ wx.cell? ⟨w.heap.size + 1, 0, none⟩ = some (.int .i64 l0) ∧ wx.cell? ⟨w.heap.size + 1, 1, none⟩ = some (.int .i64 e0) ∧ wx.cell? ⟨w.heap.size + 1, 2, none⟩ = some (.int .i64 r0)) 5 8 (by kernel_rfl) rfl (by kernel_rfl) (fun d _ _ _ _ h => by cases d <;> exact h) (hS.hold) (fun opz T hOps hT hTok hHeld => ?_)
  refine wpTree_world ?_
  intro wz hwz
  have b4 : Below w4.heap.size w4 wz := by rw [hwz]; exact (Below.refl _ _).drew
  have hSz := hS.below b4
  clear hwz hHeld
  (refine wpTree_q 0 hTok hOps (by kernel_rfl) rfl rfl ⟨?_, ?_, ?_⟩; rotate_left; (focus (intro wx hSx; (try dsimp only at hSx); go_simp; (try with_reducible rfl))); (simp only [Act.put, List.setIfInBounds_toArray, List.set_cons_zero, List.set_cons_succ]))
  (refine wpTree_q 1 hTok hOps (by kernel_rfl) rfl rfl ⟨?_, ?_, ?_⟩; rotate_left; (focus (intro wx hSx; (try dsimp only at hSx); go_simp; (try with_reducible rfl))); (simp only [Act.put, List.setIfInBounds_toArray, List.set_cons_zero, List.set_cons_succ]))
  (refine wpTree_q 3 hTok hOps (by kernel_rfl) rfl rfl ⟨?_, ?_, ?_⟩; rotate_left; (focus (intro wx hSx; (try dsimp only at hSx); go_simp; (try with_reducible rfl))); (simp only [Act.put, List.setIfInBounds_toArray, List.set_cons_zero, List.set_cons_succ]))
  (refine wpTree_q 4 hTok hOps (by kernel_rfl) rfl rfl ⟨?_, ?_, ?_⟩; rotate_left; (focus (intro wx hSx; (try dsimp only at hSx); go_simp; (try with_reducible rfl))); (simp only [Act.put, List.setIfInBounds_toArray, List.set_cons_zero, List.set_cons_succ]))
  refine wpTree_1 2 hOps (by kernel_rfl) (by decide) rfl (fun K' hK => ?_)
  go_simp
  refine (hNx.out _ hSz.bel).mono ?_
  rintro x wy ⟨bzy, va, rfl, hva⟩
  obtain ⟨aa, ca, rfl, hac, hcm, _⟩ := hva.slice
  have hag := hva.lt
  dsimp only
  have hSy := hSz.below bzy
  refine hK.out _ _ hSy.hold ?_
  clear hK K'
  try simp only [Act.put, List.setIfInBounds_toArray, List.set_cons_zero, List.set_cons_succ]
  refine wpTree_nil hOps (by kernel_rfl) ?_
  refine hT.out _ _ ?_
  simp only [List.drop_succ_cons, List.drop_zero]
  have b4y := b4.trans (bzy.mono b4.size)
  have hzy := bzy.size
  have hz4 := b4.size
  clear hTok hT hOps
  obtain ⟨c0, c1, c2', c3, cl0, cl⟩ := hSy.facts
  obtain ⟨na, hna⟩ : ∃ na, na = (nextS ops l0 e0 r0).length := ⟨_, rfl⟩
  rw [← hna] at hac hag ⊢
  replace hna := Lib.hid hna
  replace hag := Lib.hid hag
  have hra : RowG 28 3 wy wz.heap.size (.slice aa na ca) na := by rw [hna.out]; exact ⟨_, hva⟩
  have hcam : ca ≤ 9223372036854775807 := by unfold maxLen at hcm; exact hcm
  clear hva
  go_wp2_with fail
  refine (hNx.out _ hSy.bel).mono ?_
  rintro x w5 ⟨b5, vb, rfl, hvb⟩
  obtain ⟨ab, cb, rfl, _⟩ := hvb.slice
  rw [← hna.out]
  dsimp only
  go_upto_region 6 with fail
  have hS5 := hSy.below b5
  have b45 := b4y.trans (b5.mono (by omega))
  refine wp_region_tree (fun wx => wx.cell? ⟨w.heap.size, 0, none⟩ = some (.slice ao n cap) ∧ wx.cell? ⟨w.heap.size + 1, 0, none⟩ = some (.int .i64 l0) ∧ wx.cell? ⟨w.heap.size + 1, 1, none⟩ = some (.int .i64 e0) ∧ wx.cell? ⟨w.heap.size + 1, 2, none⟩ = some (.int .i64 r0)) 9 12 (by kernel_rfl) rfl (by kernel_rfl) (fun d _ _ _ _ h => by cases d <;> exact h) (hS5.hold) (fun opz T hOps hT hTok hHeld => ?_)
  refine wpTree_world ?_
  intro wq hwq
  have b5q : Below w5.heap.size w5 wq := by rw [hwq]; exact (Below.refl _ _).drew
  have hSq := hS5.below b5q
  have b4q := b45.trans (b5q.mono b45.size)
  clear hwq hHeld
  (refine wpTree_q 0 hTok hOps (by kernel_rfl) rfl rfl ⟨?_, ?_, ?_⟩; rotate_left; (focus (intro wx hSx; (try dsimp only at hSx); go_simp; (try with_reducible rfl))); (simp only [Act.put, List.setIfInBounds_toArray, List.set_cons_zero, List.set_cons_succ]))
  (refine wpTree_q 1 hTok hOps (by kernel_rfl) rfl rfl ⟨?_, ?_, ?_⟩; rotate_left; (focus (intro wx hSx; (try dsimp only at hSx); go_simp; (try with_reducible rfl))); (simp only [Act.put, List.setIfInBounds_toArray, List.set_cons_zero, List.set_cons_succ]))
  (refine wpTree_q 2 hTok hOps (by kernel_rfl) rfl rfl ⟨?_, ?_, ?_⟩; rotate_left; (focus (intro wx hSx; (try dsimp only at hSx); go_simp; (try with_reducible rfl))); (simp only [Act.put, List.setIfInBounds_toArray, List.set_cons_zero, List.set_cons_succ]))
  (refine wpTree_q 3 hTok hOps (by kernel_rfl) rfl rfl ⟨?_, ?_, ?_⟩; rotate_left; (focus (intro wx hSx; (try dsimp only at hSx); go_simp; (try with_reducible rfl))); (simp only [Act.put, List.setIfInBounds_toArray, List.set_cons_zero, List.set_cons_succ]))
  (refine wpTree_q 5 hTok hOps (by kernel_rfl) rfl rfl ⟨?_, ?_, ?_⟩; rotate_left; (focus (intro wx hSx; (try dsimp only at hSx); go_simp; (try with_reducible rfl))); (simp only [Act.put, List.setIfInBounds_toArray, List.set_cons_zero, List.set_cons_succ]))
  (refine wpTree_q 6 hTok hOps (by kernel_rfl) rfl rfl ⟨?_, ?_, ?_⟩; rotate_left; (focus (intro wx hSx; (try dsimp only at hSx); go_simp; (try with_reducible rfl))); (simp only [Act.put, List.setIfInBounds_toArray, List.set_cons_zero, List.set_cons_succ]))
  (refine wpTree_q 7 hTok hOps (by kernel_rfl) rfl rfl ⟨?_, ?_, ?_⟩; rotate_left; (focus (intro wx hSx; (try dsimp only at hSx); go_simp; (try with_reducible rfl))); (simp only [Act.put, List.setIfInBounds_toArray, List.set_cons_zero, List.set_cons_succ]))
  (refine wpTree_q 8 hTok hOps (by kernel_rfl) rfl rfl ⟨?_, ?_, ?_⟩; rotate_left; (focus (intro wx hSx; (try dsimp only at hSx); go_simp; (try with_reducible rfl))); (simp only [Act.put, List.setIfInBounds_toArray, List.set_cons_zero, List.set_cons_succ]))
  refine wpTree_1 4 hOps (by kernel_rfl) (by decide) rfl (fun K' hK => ?_)
  go_simp
  refine (hFr.out ci ai w4.heap.size _ hSq.bel b4q.size hsb4 (imp_stamps hini b4q)).mono ?_
  rintro x w6 ⟨vf, ff, rfl, hvf, hff, b6⟩
  obtain ⟨af, cf, rfl, hfc, hfm, _⟩ := hvf.1.slice
  have hfg := hvf.1.lt
  dsimp only
  have hS6 := hSq.below b6
  have b46 := b4q.trans (b6.mono b4q.size)
  refine hK.out _ _ hS6.hold ?_
  clear hK K'
  try simp only [Act.put, List.setIfInBounds_toArray, List.set_cons_zero, List.set_cons_succ]
  refine wpTree_nil hOps (by kernel_rfl) ?_
  refine hT.out _ _ ?_
  simp only [List.drop_succ_cons, List.drop_zero]
  clear hTok hT hOps
  obtain rfl := hff.unique (frontT_front _)
  obtain ⟨c0, c1, c2', c3, cl0, cl⟩ := hS6.facts
  obtain ⟨TS, hTS⟩ : ∃ TS, TS = timesS ops l0 L := ⟨_, rfl⟩
  rw [← hTS] at hvf hfc hfg hff ⊢
  obtain ⟨nf, hnf⟩ : ∃ nf, nf = (frontT TS).length := ⟨_, rfl⟩
  rw [← hnf] at hfc hfg ⊢
  replace hnf := Lib.hid hnf
  replace hfg := Lib.hid hfg
  have hrf : RowG 26 2 w6 wq.heap.size (.slice af nf cf) nf := by rw [hnf.out]; exact ⟨_, hvf.1⟩
  have hcfm : cf ≤ 9223372036854775807 := by unfold maxLen at hfm; exact hfm
  clear hvf
  go_wp2_with fail
  refine (hFr.out ci ai w4.heap.size _ hS6.bel b46.size hsb4 (imp_stamps hini b46)).mono ?_
  rintro x w7 ⟨vh, fh, rfl, hvh, hfh, b7⟩
  obtain rfl := hfh.unique (frontT_front _)
  rw [← hTS] at hvh hfh
  obtain ⟨ah, ch, rfl, _⟩ := hvh.1.slice
  rw [← hnf.out]
  have b47 := b46.trans (b7.mono b46.size)
  have hsz7 := b7.size
  have hsz6 := b6.size
  have hsz5 := b5.size
  have hszq := b5q.size
  have hrf7 := hrf.chg (Chg.of_below b7) (fun g hg e => by have := (hrf.lt g hg).2; omega)
  have hra7 := hra.chg (Chg.of_below ((((b5.trans (b5q.mono hsz5)).trans (b6.mono (by omega)))).trans (b7.mono (by omega)))) (fun g hg e => by have := (hag.out g hg).2; omega)
  have hvb7 := hvb.below (((b5q.trans (b6.mono hszq))).trans (b7.mono (by omega))) (Nat.le_refl _)
  have hbl := hvb.lt
  replace hTS := Lib.hid hTS
  clear hrf hra hvb hS5 hSq hS6 hSy hSz c0 c1 c2' c3 cl0 cl hff hfh b7 b6 b5q b5 bzy b4y b45 b4q b46
  dsimp only
  go_wp2_with fail
  go_loopw [13] (fun x wr => ∃ i : Nat, i ≤ na ∧ x = .int .i64 i ∧ RowG 28 3 wr wz.heap.size (.slice aa na ca) na ∧ Chg (fun k => Value.ownBlock (.slice aa na ca) = some k) w7 wr) (fun x _ => na - (intOf x).toNat)
  case atStart => exact ⟨0, Nat.zero_le _, rfl, hra7, Chg.refl _ _⟩
  case round =>
    clear hra7
    obtain ⟨i, hin, rfl, hrow, hch⟩ := hrel
    by_cases hlt : i < na
    · obtain ⟨g, cells, rfl, hg, hgs, hmc, hcm2, hgb⟩ := hrow.blk (by omega)
      have hi1 : i * 3 < cells.size := by omega
      have q0 := hg.cellAt (Array.getElem?_eq_getElem hi1)
      have f0 := hg.frozen (i * 3)
      have hset := hg.set (i * 3) (.int .i64 (-9))
      have hch2 := hch.setCell ⟨g, i * 3, none⟩ (.int .i64 (-9)) (fun _ => rfl)
      go_wp2_with fail
      go_roundw
      case rel => exact ⟨i + 1, by omega, by go_num, RowG.of_blk hset (by simp [hgs]) hmc hcm2 hgb, hch2⟩
      case measure => simp [intOf]; omega
    · have hrf8 := hrf7.chg hch (fun g hg e => by have := (hag.out g e).2; have := (hfg.out g hg).1; omega)
      generalize hw8 : wr = w8 at *
      clear hw8 hrow hrf7
      go_wp2_with fail
      clear hlt hin
      go_loopw [14] (fun x wr => ∃ i : Nat, i ≤ nf ∧ x = .int .i64 i ∧ RowG 26 2 wr wq.heap.size (.slice af nf cf) nf ∧ Chg (fun k => Value.ownBlock (.slice af nf cf) = some k) w8 wr) (fun x _ => nf - (intOf x).toNat)
      case atStart => exact ⟨0, Nat.zero_le _, rfl, hrf8, Chg.refl _ _⟩
      case round =>
        clear hrf8
        obtain ⟨i, hin, rfl, hrow, hch8⟩ := hrel
        by_cases hlt : i < nf
        · obtain ⟨g, cells, rfl, hg, hgs, hmc, hcm2, hgb⟩ := hrow.blk (by omega)
          have hi1 : i * 2 < cells.size := by omega
          have q0 := hg.cellAt (Array.getElem?_eq_getElem hi1)
          have f0 := hg.frozen (i * 2)
          have hset := hg.set (i * 2) (.int .i64 (-9))
          have hch2 := hch8.setCell ⟨g, i * 2, none⟩ (.int .i64 (-9)) (fun _ => rfl)
          go_wp2_with fail
          go_roundw
          case rel => exact ⟨i + 1, by omega, by go_num, RowG.of_blk hset (by simp [hgs]) hmc hcm2 hgb, hch2⟩
          case measure => simp [intOf]; omega
        · generalize hw9 : wr = w9 at *
          clear hw9 hrow
          have hb79 : Below w4.heap.size w7 w9 := (hch.below b47.size (fun k hk e => by have := (hag.out k e).1; omega)).trans (hch8.below (by have := hch.size; have := b47.size; omega) (fun k hk e => by have := (hfg.out k e).1; omega))
          have hb49 := b47.trans hb79
          have hS9 := hS.below hb49
          have hw9 := hw4.below hb49 hwb4
          have hsw9 := imp_ops hsw (hb49.mono (by omega))
          have hinE := es_grow (es_rs hini) hb49
          have hlE := es_grow (es_rs hl) hS9.bel
          have hvb9 := (hvb7.chg hch (fun g hg e => by have := (hag.out g e).2; have := (hbl g hg).1; omega)).chg hch8 (fun g hg e => by have := (hfg.out g e).1; have := (hbl g hg).2; omega)
          have hvh9 := (hvh.1.chg hch (fun g hg e => by have := (hag.out g e).2; have := (hvh.1.lt g hg).1; omega)).chg hch8 (fun g hg e => by have := (hfg.out g e).2; have := (hvh.1.lt g hg).1; omega)
          have hwvh := hvh.2
          clear hch hch8 hb79 hS hw4 hsw hini hvb7 hvh hag hfg hbl
          have c1 := hS9.facts
          have cw := hw9.cellAt (i := 0) (v := .slice aw n cw) rfl
          obtain ⟨c0, c1, c2', c3, cl0, cl⟩ := c1
          go_wp2_with fail
          refine (hSg.out aw _ wb _ hS9.bel hwbw (by have := hb49.size; omega) hsw9).mono ?_
          rintro x wA ⟨⟨g, rfl, hg⟩, bA⟩
          obtain rfl : g = true := by simpa using hg
          clear hg c0 c1 c2' c3 cl0 cl cw hw9
          have hSA := hS9.below bA
          obtain ⟨c0, c1, c2', c3, cl0, cl⟩ := hSA.facts
          dsimp only
          have hss := sameStamps_true L ai ao2 ci c2 wA wA.heap.size (Nat.le_refl _) (es_grow hinE bA) (es_grow hlE bA)
          rw [← hm.out] at hss
          go_wp2_with fail
          refine hss.mono ?_
          rintro x wB ⟨rfl, bB⟩
          have bAB := bA.trans (bB.mono bA.size)
          have hSB := hS9.below bAB
          clear c0 c1 c2' c3 cl0 cl hss
          obtain ⟨c0, c1, c2', c3, cl0, cl⟩ := hSB.facts
          dsimp only
          go_wp2_with fail
          refine (hRNx.out _ hSB.bel).mono ?_
          rintro x wC ⟨bC, vq, rfl, hvq⟩
          have bAC := bAB.trans (bC.mono bAB.size)
          have hSC := hS9.below bAC
          obtain ⟨aq, cq, rfl, hq⟩ := hvq.sla (E := ES) encS_len (fun x _ => rfl)
          obtain ⟨ab', cb', hvbe, hbs⟩ := (hvb9.below bAC (Nat.le_refl _)).sla (E := ES) encS_len (fun x _ => rfl)
          simp only [Value.slice.injEq] at hvbe
          obtain ⟨rfl, hx9, rfl⟩ := hvbe
          clear hx9
          have hss := sameStamps_true (nextS ops l0 e0 r0) ab aq cb cq wC wC.heap.size (Nat.le_refl _) hbs hq
          rw [← hna.out] at hss ⊢
          clear c0 c1 c2' c3 cl0 cl hbs hq hvq
          obtain ⟨c0, c1, c2', c3, cl0, cl⟩ := hSC.facts
          dsimp only
          go_wp2_with fail
          refine hss.mono ?_
          rintro x wD ⟨rfl, bD⟩
          have bAD := bAC.trans (bD.mono bAC.size)
          have hSD := hS9.below bAD
          clear c0 c1 c2' c3 cl0 cl hss
          obtain ⟨c0, c1, c2', c3, cl0, cl⟩ := hSD.facts
          dsimp only
          go_wp2_with fail
          refine (hRFr.out _ hSD.bel).mono ?_
          rintro x wE ⟨vt, rfl, hvt, bE⟩
          have bAE := bAD.trans (bE.mono bAD.size)
          have hSE := hS9.below bAE
          rw [← hTS.out] at hvt
          obtain ⟨at_, ct, rfl, ht⟩ := hvt.sla
          obtain ⟨ah', ch', hvhe, hhs⟩ := (hvh9.below bAE (Nat.le_refl _)).sla (E := RTime wE.heap.size) encT_len (fun x hx => ⟨rfl, hwvh x hx⟩)
          simp only [Value.slice.injEq] at hvhe
          obtain ⟨rfl, hx9, rfl⟩ := hvhe
          clear hx9
          have hst := sameTimes_any (frontT TS) (frontT TS) ah at_ ch ct wE wE.heap.size (Nat.le_refl _) hhs ht
          rw [sameTs_self, ← hnf.out] at hst
          rw [← hnf.out]
          clear c0 c1 c2' c3 cl0 cl hhs ht hvt
          obtain ⟨c0, c1, c2', c3, cl0, cl⟩ := hSE.facts
          dsimp only
          go_wp2_with fail
          refine hst.mono ?_
          rintro x wF ⟨rfl, bF⟩
          have hSF := hSE.below bF
          have hbz := hSF.bel
          dsimp only
          go_wp2_with fail
          go_ret
          exact ⟨rfl, hbz⟩
theorem rkeeps_row {w : World} (cs : Array Value) (x : TGraph) (hx : RGraph w.heap.size w (Value.cells (.agg cs)).toList x) (hz : x.fOps.length * 72 ≤ reachBytes) (hzi : ∀ o ∈ x.fOps, o.fIn.length * 8 ≤ reachBytes) (a1 : Option Addr) (len1 cap1 : Nat) (x1 : List TStamp)
    (h1 : RSl w.heap.size 3 (RStamp w.heap.size) w (Value.cells (.slice a1 len1 cap1)).toList x1) (z1 : cap1 * 24 ≤ reachBytes) (c2 : Array Value) (x2 : TStamp) (h2 : RStamp w.heap.size w (Value.cells (.agg c2)).toList x2) :
    Calls Try.prog 5 #[.agg cs, .slice a1 len1 cap1, .agg c2] w fun e w' => e = .returned (.bool true) ∧ Below w.heap.size w w' := by
  obtain ⟨ao, cap, rfl, hs⟩ := graph_agg hx
  obtain ⟨rfl, _⟩ := stamp_agg h2
  obtain ⟨a, k, he, hsl⟩ := h1
  obtain ⟨rfl, rfl, rfl⟩ : a1 = a ∧ len1 = x1.length ∧ cap1 = k := by simpa [Value.cells] using he
  have hr : reachBytes = 140737488351232 := rfl
  exact rkeeps_walk x.fOps cap ao x1 _ _ _ _ _ w hs hsl (by omega) (fun o ho => by have := hzi o ho; omega) (by have := hsl.1; omega)
end Go.Proofs.Ytbiakolkcikeiaa
