/- Model: a fold of Run (the closure 'at'). -/
import Derived.Test.YtbianedgogdeeaaMk
namespace Go.Proofs.Ytbianedgogdeeaa
open Go.RowKit Go.Maps Fold Go.Lib
attribute [local go_sem] Oper.semAt_some
set_option linter.unusedVariables false
set_option linter.unusedSimpArgs false

theorem keptAt_nil {s : ST} (h : s.length = 0) (i : Nat) : keptAt s i = [] := by
  unfold keptAt
  rw [List.getElem?_eq_none (by omega)]
  rfl
/-- Behind a fold: what came out, and what is kept. -/
theorem fold_done {B n i : Nat} {d : RD} {ops : List TOp} {s : ST} {recs : List TRecord} {vs ns : List Value} {w w1 wr : World} {v kv : Value} {L out keep : PRS} (h : RunW w B d n ops s recs vs ns)
    (hb1 : Below w.heap.size w w1) (hbr : Below w1.heap.size w1 wr) (hown : OwnR wr w1.heap.size v L) (hout : L.Perm out) (hkv : OwnR wr w1.heap.size kv keep) : AtPost w B d n ops s recs vs ns i out keep (.returned v) (wr.setCell ⟨d.nr, i, none⟩ kv) := by
  have hb := hb1.trans (hbr.mono hb1.size)
  have hc : Chg (fun k => k = d.nr) wr (wr.setCell ⟨d.nr, i, none⟩ kv) := (Chg.refl _ _).setCell _ _ (fun _ => rfl)
  have hlt := h.nrow.lt
  have hne : ∀ {u : Value} {l : PRS}, OwnR wr w1.heap.size u l → ∀ g, u.ownBlock = some g → ¬ g = d.nr := fun {u l} ho g e e2 => by
    have := (ho.lt g e).1
    have := hb1.size
    omega
  refine ⟨v, L, kv, rfl, (hown.chg hc (hne hown)).base_le hb1.size, hout, (h.below hb h.hB).setN kv, (hkv.chg hc (hne hkv)).base_le hb1.size, ?_⟩
  exact ((Chg.of_below hb).mono (fun k hk e => absurd hk (by omega))).trans hc

set_option maxRecDepth 100000 in
set_option maxHeartbeats 4000000 in
theorem at_fold {B n i : Nat} {d : RD} {ops : List TOp} {s : ST} {recs : List TRecord} {vs ns : List Value} (w : World) (h : RunW w B d n ops s recs vs ns) (hi : i < n) (o : TOp) (ho : ops[i]? = some o) (hk : o.fKind = 4)
    (hnil : ns[i]? = some (.slice none 0 0)) (a b : PRS) (ha : InAt w o.fIn vs 0 a) (h0 : 0 ≤ o.fArg) (h6 : o.fArg ≤ 6) (hsl : s.length = 0 ∨ s.length = n) (hs : Srt (keptAt s i)) (hsok : okS s) (hsz : (keptAt s i).length ≤ 5864062014805) :
    Calls Try.prog 28 (d.args i) w (AtPost w B d n ops s recs vs ns i (opOut o a b (keptAt s i) recs) (opKeep o a (keptAt s i))) := by
  have hout : opOut o a b (keptAt s i) recs = foldOut o.fArg a (keptAt s i) := by unfold opOut; rw [if_neg (by omega), if_neg (by omega), if_pos hk]
  have hkeep : opKeep o a (keptAt s i) = foldKeep o.fArg a (keptAt s i) := by unfold opKeep; rw [if_pos hk]
  have hset := set_nil hnil
  have hni : i < ns.length := by rw [← h.lens.2]; exact hi
  obtain ⟨iR, hiR, hR0, hR1, hR2⟩ := partsR
  have hio : i < ops.length := by rw [← h.len]; exact hi
  have hoe : ops[i] = o := by rw [List.getElem?_eq_getElem hio] at ho; simpa using ho
  obtain ⟨gb, goff, hga, hgb, hgc⟩ := h.hops.addr (by omega)
  have hget := h.hops
  rw [hga] at hget
  obtain ⟨ia, ic, k0, k1, k2, k3, k4, k5, k6, _, hins, _⟩ := ROp.at hget hio hoe
  have g0 := h.g.cellAt (i := 0) (v := .slice d.ga n d.gcap) rfl
  rw [hga] at g0
  have hBw := h.hB
  have hgbw : gb < w.heap.size := by omega
  obtain ⟨kind, ins, arg, num, rounds, test, lim⟩ := o
  dsimp only at hk k0 k1 k2 k3 k4 k5 k6 hins
  subst hk
  unfold RD.args
  replace hout := Lib.hid hout
  replace hkeep := Lib.hid hkeep
  replace hset := Lib.hid hset
  replace hga := Lib.hid hga
  replace ho := Lib.hid ho
  replace hoe := Lib.hid hoe
  replace hnil := Lib.hid hnil
  replace h := Lib.hid h
  clear hget hgc
  obtain ⟨il, hil⟩ : ∃ il, il = ins.length := ⟨_, rfl⟩
  rw [← hil] at k1
  replace hil := Lib.hid hil
  go_enter Try.func28, Try.ntmps28
  go_upto_region 2 with fail
  refine Code.wp_world ?_
  intro w1 hw1
  have hb1 : Below w.heap.size w w1 := by rw [hw1]; exact belowAlloc _ _
  have hQ1 : Blk w1 w.heap.size #[.int .i64 4, .slice ia il ic, .int .i64 arg, .int .u32 num, .int .i64 rounds, .int .i64 test, .int .u32 lim] 51 := by rw [hw1]; exact Blk.new _ _ _
  obtain ⟨ob, hob⟩ : ∃ ob, ob = w.heap.size := ⟨_, rfl⟩
  have hob1 : ob < w1.heap.size := by rw [hob]; exact hQ1.lt
  rw [← hob] at hQ1 ⊢
  have q0 := hQ1.cellAt (i := 0) (v := .int .i64 4) rfl
  have q1 := hQ1.cellAt (i := 1) (v := .slice ia il ic) rfl
  have q2 := hQ1.cellAt (i := 2) (v := .int .i64 arg) rfl
  have q3 := hQ1.cellAt (i := 3) (v := .int .u32 num) rfl
  have q4 := hQ1.cellAt (i := 4) (v := .int .i64 rounds) rfl
  have q5 := hQ1.cellAt (i := 5) (v := .int .i64 test) rfl
  have q6 := hQ1.cellAt (i := 6) (v := .int .u32 lim) rfl
  replace hob := Lib.hid hob
  clear hw1 k0 k1 k2 k3 k4 k5 k6 g0
  dsimp only at h0 h6
  obtain ⟨ao, ac, hca, hPa, hoka, hla⟩ := in_call h.out hins ha
  try dsimp only at hca
  rw [← hil.out] at hca
  have hd1 : Below w1.heap.size w1 w1.drew := (Below.refl _ _).drew
  have hca1 := hca w1.drew ob (hb1.trans (hd1.mono hb1.size)) q1
  obtain ⟨na, hna⟩ : ∃ na, na = a.length := ⟨_, rfl⟩
  rw [← hna] at hca1
  have s0 := (hb1.cell (p := ⟨d.sb, 0, none⟩) h.out.sblk.lt).trans (h.out.sblk.cellAt (i := 0) (v := .slice d.sa s.length d.scap) rfl)
  have n0 := (hb1.cell (p := ⟨d.nb, 0, none⟩) h.out.nx.lt).trans (h.out.nx.cellAt (i := 0) (v := .slice (some ⟨d.nr, 0, none⟩) n n) rfl)
  have hnbl : d.nb < w1.heap.size := Nat.lt_of_lt_of_le h.out.nx.lt hb1.size
  obtain ⟨m, hm⟩ : ∃ m, m = s.length := ⟨_, rfl⟩
  rw [← hm] at s0 hsl
  obtain ⟨kept, hkept⟩ : ∃ kept, kept = keptAt s i := ⟨_, rfl⟩
  have hokk : ∀ p ∈ kept, okR p := fun p hp => by
    rw [hkept] at hp
    unfold keptAt at hp
    cases hg : s[i]? with
    | none => rw [hg] at hp; cases hp
    | some l => rw [hg] at hp; exact hsok l (List.mem_of_getElem? hg) p hp
  rw [← hkept] at hs hsz hout hkeep ⊢
  have hfd := fun W (hW : Below w.heap.size w W) ko kc (hk : PrA w.heap.size W ko kc kept) => folded_any arg a kept ao ko ac kc w.heap.size W hW.size h0 h6 (hPa W hW) hk hoka hokk hs (by omega) hsz
  rw [← hna] at hfd
  replace hna := Lib.hid hna
  replace hca1 := Lib.hid hca1
  replace hfd := Lib.hid hfd
  replace hm := Lib.hid hm
  clear hca q3 q4 q5 q6 ha
  rcases hsl with hs0 | hsn
  · have hke : kept = [] := by rw [hkept]; exact keptAt_nil (by rw [← hm.out]; exact hs0) i
    subst hs0
    have hkl : ([] : PRS).length = 0 := rfl
    have hPk : ∀ W, PrA w.heap.size W none 0 kept := fun W => by rw [hke]; exact SlA.nil _ _ _ _
    have hfd2 := fun W hW => hfd.out W hW none 0 (hPk W)
    rw [hke] at hfd2
    rw [hkl] at hfd2
    replace hkept := Lib.hid hkept
    replace hke := Lib.hid hke
    replace hfd2 := Lib.hid hfd2
    clear hfd hPk hkl
    go_upto_region 29 with fail
    refine wp_region_tree (fun wx => wx.cell? ⟨ob, 2, none⟩ = some (.int .i64 arg) ∧ wx.cell? ⟨d.nb, 0, none⟩ = some (.slice (some ⟨d.nr, 0, none⟩) n n)) 13 15 (by kernel_rfl) rfl (by kernel_rfl) (fun d _ _ _ _ h => by cases d <;> exact h) (⟨q2, n0⟩) (fun opz T hOps hT hTok hHeld => ?_)
    (refine wpTree_q 0 hTok hOps (by kernel_rfl) rfl rfl ⟨?_, ?_, ?_⟩; rotate_left; (focus (intro wx hSx; (try dsimp only at hSx); go_simp; (try with_reducible rfl))); (simp only [Act.put, List.setIfInBounds_toArray, List.set_cons_zero, List.set_cons_succ]))
    (refine wpTree_q 1 hTok hOps (by kernel_rfl) rfl rfl ⟨?_, ?_, ?_⟩; rotate_left; (focus (intro wx hSx; (try dsimp only at hSx); go_simp; (try with_reducible rfl))); (simp only [Act.put, List.setIfInBounds_toArray, List.set_cons_zero, List.set_cons_succ]))
    (refine wpTree_q 2 hTok hOps (by kernel_rfl) rfl rfl ⟨?_, ?_, ?_⟩; rotate_left; (focus (intro wx hSx; (try dsimp only at hSx); go_simp; (try with_reducible rfl))); (simp only [Act.put, List.setIfInBounds_toArray, List.set_cons_zero, List.set_cons_succ]))
    (refine wpTree_q 3 hTok hOps (by kernel_rfl) rfl rfl ⟨?_, ?_, ?_⟩; rotate_left; (focus (intro wx hSx; (try dsimp only at hSx); go_simp; (try with_reducible rfl))); (simp only [Act.put, List.setIfInBounds_toArray, List.set_cons_zero, List.set_cons_succ]))
    (refine wpTree_q 4 hTok hOps (by kernel_rfl) rfl rfl ⟨?_, ?_, ?_⟩; rotate_left; (focus (intro wx hSx; (try dsimp only at hSx); go_simp; (try with_reducible rfl))); (simp only [Act.put, List.setIfInBounds_toArray, List.set_cons_zero, List.set_cons_succ]))
    (refine wpTree_q 5 hTok hOps (by kernel_rfl) rfl rfl ⟨?_, ?_, ?_⟩; rotate_left; (focus (intro wx hSx; (try dsimp only at hSx); go_simp; (try with_reducible rfl))); (simp only [Act.put, List.setIfInBounds_toArray, List.set_cons_zero, List.set_cons_succ]))
    (refine wpTree_q 7 hTok hOps (by kernel_rfl) rfl rfl ⟨?_, ?_, ?_⟩; rotate_left; (focus (intro wx hSx; (try dsimp only at hSx); go_simp; (try with_reducible rfl))); (simp only [Act.put, List.setIfInBounds_toArray, List.set_cons_zero, List.set_cons_succ]))
    refine wpTree_1 6 hOps (by kernel_rfl) (by decide) rfl (fun K' hK => ?_)
    go_simp
    refine hca1.out.mono ?_
    rintro e w2 ⟨rfl, hb2⟩
    have hb12 : Below w.heap.size w w2 := hb1.trans ((hd1.trans hb2).mono hb1.size)
    have q22 := (hb2.cell (p := ⟨ob, 2, none⟩) hob1).trans q2
    have n2 := (hb2.cell (p := ⟨d.nb, 0, none⟩) hnbl).trans n0
    have hfd3 := hfd2.out w2 hb12
    replace hfd3 := Lib.hid hfd3
    dsimp only
    refine hK.out _ _ ⟨q22, n2⟩ ?_
    clear hK K' hca1 hfd2 q1 q2 n0 hHeld
    try simp only [Act.put, List.setIfInBounds_toArray, List.set_cons_zero, List.set_cons_succ]
    refine wpTree_1 8 hOps (by kernel_rfl) (by decide) rfl (fun K' hK => ?_)
    go_simp
    refine hfd3.out.mono ?_
    rintro e w4 ⟨v4, k4, L4, rfl, hown4, hp4, hkeep4, hb4⟩
    obtain ⟨kao, kcp, rfl, _, _, _⟩ := hkeep4.slice
    obtain ⟨kn, hkn⟩ : ∃ kn, kn = (foldKeep arg a []).length := ⟨_, rfl⟩
    rw [← hkn] at hkeep4 ⊢
    replace hkn := Lib.hid hkn
    have q24 := (hb4.cell (p := ⟨ob, 2, none⟩) (Nat.lt_of_lt_of_le hob1 hb2.size)).trans q22
    have n4 := (hb4.cell (p := ⟨d.nb, 0, none⟩) (Nat.lt_of_lt_of_le hnbl hb2.size)).trans n2
    dsimp only
    refine hK.out _ _ ⟨q24, n4⟩ ?_
    clear hK K' hfd3 q22 q24 n2
    try simp only [Act.put, List.setIfInBounds_toArray, List.set_cons_zero, List.set_cons_succ]
    (refine wpTree_q 9 hTok hOps (by kernel_rfl) rfl rfl ⟨?_, ?_, ?_⟩; rotate_left; (focus (intro wx hSx; (try dsimp only at hSx); go_simp; (try with_reducible rfl))); (simp only [Act.put, List.setIfInBounds_toArray, List.set_cons_zero, List.set_cons_succ]))
    (refine wpTree_q 10 hTok hOps (by kernel_rfl) rfl rfl ⟨?_, ?_, ?_⟩; rotate_left; (focus (intro wx hSx; (try dsimp only at hSx); go_simp; (try with_reducible rfl))); (simp only [Act.put, List.setIfInBounds_toArray, List.set_cons_zero, List.set_cons_succ]))
    (refine wpTree_q 11 hTok hOps (by kernel_rfl) rfl rfl ⟨?_, ?_, ?_⟩; rotate_left; (focus (intro wx hSx; (try dsimp only at hSx); go_simp; (try with_reducible rfl))); (simp only [Act.put, List.setIfInBounds_toArray, List.set_cons_zero, List.set_cons_succ]))
    (refine wpTree_q 12 hTok hOps (by kernel_rfl) rfl rfl ⟨?_, ?_, ?_⟩; rotate_left; (focus (intro wx hSx; (try dsimp only at hSx); go_simp; (try with_reducible rfl))); (simp only [Act.put, List.setIfInBounds_toArray, List.set_cons_zero, List.set_cons_succ]))
    refine wpTree_nil hOps (by kernel_rfl) ?_
    refine hT.out _ _ ?_
    simp only [List.drop_succ_cons, List.drop_zero]
    clear hTok hOps hT
    have hb14 := hb12.trans (hb4.mono hb12.size)
    have hnr4 := (h.out.below hb14 hBw).nrow
    obtain ⟨x0, hx0⟩ : ∃ x, w4.cell? ⟨d.nr, i, none⟩ = some x := ⟨ns[i], by rw [hnr4.cell]; simp [hni]⟩
    have hf0 := hnr4.frozen i
    clear hnr4
    go_wp2_with fail
    go_ret
    exact fold_done h.out hb12 hb4 hown4 (by rw [← hkept.out, hout.out, hke.out]; exact hp4) (by rw [← hkept.out, hkeep.out, hke.out]; exact hkeep4)
  · have hsl2 : i < s.length := by rw [← hm.out, hsn]; exact hi
    obtain ⟨sb, soff, hsa, hsb, _⟩ := h.out.hst.addr (by omega)
    have hst := h.out.hst
    rw [hsa] at hst s0
    obtain ⟨ko, kc, e0, hPk⟩ := StA.at hst hsl2
    have hke : kept = s[i] := by rw [hkept]; exact keptAt_eq hsl2
    rw [← hke] at e0 hPk
    have hPkW : ∀ W, Below w.heap.size w W → PrA w.heap.size W ko kc kept := fun W hW => hPk.imp' (hW.mono hBw) hBw
    have hfd2 := fun W hW => hfd.out W hW ko kc (hPkW W hW)
    have e1 := (hb1.cell (p := ⟨sb, soff + i, none⟩) (by simp; omega)).trans e0
    have hsbw : sb < w1.heap.size := by have := hb1.size; omega
    have hmp : decide ((0 : Int) < (m : Int)) = true := by simp; omega
    obtain ⟨nk, hnk⟩ : ∃ nk, nk = kept.length := ⟨_, rfl⟩
    rw [← hnk] at hfd2 e1
    replace hnk := Lib.hid hnk
    replace hkept := Lib.hid hkept
    replace hke := Lib.hid hke
    replace hfd2 := Lib.hid hfd2
    replace hsa := Lib.hid hsa
    clear hfd hPk hst e0 hPkW
    have him : i < m := by omega
    replace hsn := Lib.hid hsn
    go_upto_region 29 with fail
    refine wp_region_tree (fun wx => wx.cell? ⟨ob, 2, none⟩ = some (.int .i64 arg) ∧ wx.cell? ⟨d.nb, 0, none⟩ = some (.slice (some ⟨d.nr, 0, none⟩) n n)) 13 15 (by kernel_rfl) rfl (by kernel_rfl) (fun d _ _ _ _ h => by cases d <;> exact h) (⟨q2, n0⟩) (fun opz T hOps hT hTok hHeld => ?_)
    (refine wpTree_q 0 hTok hOps (by kernel_rfl) rfl rfl ⟨?_, ?_, ?_⟩; rotate_left; (focus (intro wx hSx; (try dsimp only at hSx); go_simp; (try with_reducible rfl))); (simp only [Act.put, List.setIfInBounds_toArray, List.set_cons_zero, List.set_cons_succ]))
    (refine wpTree_q 1 hTok hOps (by kernel_rfl) rfl rfl ⟨?_, ?_, ?_⟩; rotate_left; (focus (intro wx hSx; (try dsimp only at hSx); go_simp; (try with_reducible rfl))); (simp only [Act.put, List.setIfInBounds_toArray, List.set_cons_zero, List.set_cons_succ]))
    (refine wpTree_q 2 hTok hOps (by kernel_rfl) rfl rfl ⟨?_, ?_, ?_⟩; rotate_left; (focus (intro wx hSx; (try dsimp only at hSx); go_simp; (try with_reducible rfl))); (simp only [Act.put, List.setIfInBounds_toArray, List.set_cons_zero, List.set_cons_succ]))
    (refine wpTree_q 3 hTok hOps (by kernel_rfl) rfl rfl ⟨?_, ?_, ?_⟩; rotate_left; (focus (intro wx hSx; (try dsimp only at hSx); go_simp; (try with_reducible rfl))); (simp only [Act.put, List.setIfInBounds_toArray, List.set_cons_zero, List.set_cons_succ]))
    (refine wpTree_q 4 hTok hOps (by kernel_rfl) rfl rfl ⟨?_, ?_, ?_⟩; rotate_left; (focus (intro wx hSx; (try dsimp only at hSx); go_simp; (try with_reducible rfl))); (simp only [Act.put, List.setIfInBounds_toArray, List.set_cons_zero, List.set_cons_succ]))
    (refine wpTree_q 5 hTok hOps (by kernel_rfl) rfl rfl ⟨?_, ?_, ?_⟩; rotate_left; (focus (intro wx hSx; (try dsimp only at hSx); go_simp; (try with_reducible rfl))); (simp only [Act.put, List.setIfInBounds_toArray, List.set_cons_zero, List.set_cons_succ]))
    (refine wpTree_q 7 hTok hOps (by kernel_rfl) rfl rfl ⟨?_, ?_, ?_⟩; rotate_left; (focus (intro wx hSx; (try dsimp only at hSx); go_simp; (try with_reducible rfl))); (simp only [Act.put, List.setIfInBounds_toArray, List.set_cons_zero, List.set_cons_succ]))
    refine wpTree_1 6 hOps (by kernel_rfl) (by decide) rfl (fun K' hK => ?_)
    go_simp
    refine hca1.out.mono ?_
    rintro e w2 ⟨rfl, hb2⟩
    have hb12 : Below w.heap.size w w2 := hb1.trans ((hd1.trans hb2).mono hb1.size)
    have q22 := (hb2.cell (p := ⟨ob, 2, none⟩) hob1).trans q2
    have n2 := (hb2.cell (p := ⟨d.nb, 0, none⟩) hnbl).trans n0
    have hfd3 := hfd2.out w2 hb12
    replace hfd3 := Lib.hid hfd3
    dsimp only
    refine hK.out _ _ ⟨q22, n2⟩ ?_
    clear hK K' hca1 hfd2 q1 q2 n0 hHeld
    try simp only [Act.put, List.setIfInBounds_toArray, List.set_cons_zero, List.set_cons_succ]
    refine wpTree_1 8 hOps (by kernel_rfl) (by decide) rfl (fun K' hK => ?_)
    go_simp
    refine hfd3.out.mono ?_
    rintro e w4 ⟨v4, k4, L4, rfl, hown4, hp4, hkeep4, hb4⟩
    obtain ⟨kao, kcp, rfl, _, _, _⟩ := hkeep4.slice
    obtain ⟨kn, hkn⟩ : ∃ kn, kn = (foldKeep arg a kept).length := ⟨_, rfl⟩
    rw [← hkn] at hkeep4 ⊢
    replace hkn := Lib.hid hkn
    have q24 := (hb4.cell (p := ⟨ob, 2, none⟩) (Nat.lt_of_lt_of_le hob1 hb2.size)).trans q22
    have n4 := (hb4.cell (p := ⟨d.nb, 0, none⟩) (Nat.lt_of_lt_of_le hnbl hb2.size)).trans n2
    dsimp only
    refine hK.out _ _ ⟨q24, n4⟩ ?_
    clear hK K' hfd3 q22 q24 n2
    try simp only [Act.put, List.setIfInBounds_toArray, List.set_cons_zero, List.set_cons_succ]
    (refine wpTree_q 9 hTok hOps (by kernel_rfl) rfl rfl ⟨?_, ?_, ?_⟩; rotate_left; (focus (intro wx hSx; (try dsimp only at hSx); go_simp; (try with_reducible rfl))); (simp only [Act.put, List.setIfInBounds_toArray, List.set_cons_zero, List.set_cons_succ]))
    (refine wpTree_q 10 hTok hOps (by kernel_rfl) rfl rfl ⟨?_, ?_, ?_⟩; rotate_left; (focus (intro wx hSx; (try dsimp only at hSx); go_simp; (try with_reducible rfl))); (simp only [Act.put, List.setIfInBounds_toArray, List.set_cons_zero, List.set_cons_succ]))
    (refine wpTree_q 11 hTok hOps (by kernel_rfl) rfl rfl ⟨?_, ?_, ?_⟩; rotate_left; (focus (intro wx hSx; (try dsimp only at hSx); go_simp; (try with_reducible rfl))); (simp only [Act.put, List.setIfInBounds_toArray, List.set_cons_zero, List.set_cons_succ]))
    (refine wpTree_q 12 hTok hOps (by kernel_rfl) rfl rfl ⟨?_, ?_, ?_⟩; rotate_left; (focus (intro wx hSx; (try dsimp only at hSx); go_simp; (try with_reducible rfl))); (simp only [Act.put, List.setIfInBounds_toArray, List.set_cons_zero, List.set_cons_succ]))
    refine wpTree_nil hOps (by kernel_rfl) ?_
    refine hT.out _ _ ?_
    simp only [List.drop_succ_cons, List.drop_zero]
    clear hTok hOps hT
    have hb14 := hb12.trans (hb4.mono hb12.size)
    have hnr4 := (h.out.below hb14 hBw).nrow
    obtain ⟨x0, hx0⟩ : ∃ x, w4.cell? ⟨d.nr, i, none⟩ = some x := ⟨ns[i], by rw [hnr4.cell]; simp [hni]⟩
    have hf0 := hnr4.frozen i
    clear hnr4
    go_wp2_with fail
    go_ret
    exact fold_done h.out hb12 hb4 hown4 (by rw [← hkept.out, hout.out]; exact hp4) (by rw [← hkept.out, hkeep.out]; exact hkeep4)
end Go.Proofs.Ytbianedgogdeeaa
