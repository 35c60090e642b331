/- Model: the other operators of Run (the closure 'at'): union, join, fold. -/
import Derived.Test.YtbianedgogdeeaaMj
namespace Go.Proofs.Ytbianedgogdeeaa
open Go.RowKit Go.Maps Fold Go.Lib
attribute [local go_sem] Oper.semAt_some
set_option linter.unusedVariables false
set_option linter.unusedSimpArgs false

/-- The k-th input of an operator reads as l. -/
def InAt (w : World) (ins : List Int) (vs : List Value) (k : Nat) (l : PRS) : Prop := ∃ (j : Nat) (v : Value), ins[k]? = some (j : Int) ∧ vs[j]? = some v ∧ InR w v l
theorem in_call {w : World} {B n : Nat} {d : RD} {ops : List TOp} {s : ST} {recs : List TRecord} {vs ns : List Value} (h : RunW w B d n ops s recs vs ns) {ia : Option Addr} {ic : Nat} {ins : List Int} (hins : SlA B 1 (RI .i64) w ia ic ins) {k : Nat} {l : PRS} (hI : InAt w ins vs k l) :
    ∃ ao cap, (∀ W ob, Below w.heap.size w W → W.cell? ⟨ob, 1, none⟩ = some (.slice ia ins.length ic) → Calls Try.prog 29 #[.int .i64 k, .pointer (some ⟨d.fb, 0, none⟩), .pointer (some ⟨ob, 0, none⟩)] W fun e w' => e = .returned (.slice ao l.length cap) ∧ Below W.heap.size W w') ∧
      (∀ W, Below w.heap.size w W → PrA w.heap.size W ao cap l) ∧ (∀ p ∈ l, okR p) ∧ l.length ≤ 100000 := by
  obtain ⟨j, v, hk, hv, ao, cap, rfl, hP, hok, hlen⟩ := hI
  refine ⟨ao, cap, fun W ob hb ho => ?_, fun W hb => hP.imp' hb (Nat.le_refl _), hok, hlen⟩
  have hkl : k < ins.length := by
    rcases Nat.lt_or_ge k ins.length with h1 | h1
    · exact h1
    · rw [List.getElem?_eq_none h1] at hk; cases hk
  have hjl : j < vs.length := by
    rcases Nat.lt_or_ge j vs.length with h1 | h1
    · exact h1
    · rw [List.getElem?_eq_none h1] at hv; cases hv
  obtain ⟨ib, ioff, rfl, hib, _⟩ := hins.addr (by omega)
  obtain ⟨cs, _, hc, rfl, _⟩ := hins.get k hkl
  have e0 := hc 0 (by omega)
  rw [List.getElem?_eq_getElem hkl] at hk
  simp only [Option.some.injEq] at hk
  rw [hk] at e0
  simp only [Nat.mul_one, Nat.add_zero, List.getElem?_cons_zero] at e0
  have hB := h.hB
  have hf := (hb.cell (p := ⟨d.fb, 0, none⟩) h.f.lt).trans (h.f.cellAt (i := 0) (v := .slice (some ⟨d.fr, 0, none⟩) n n) rfl)
  have hr := (hb.cell (p := ⟨d.fr, j, none⟩) h.frow.lt).trans (h.frow.cellAt (i := j) (v := .slice ao l.length cap) (by simpa using hv))
  have hi := (hb.cell (p := ⟨ib, ioff + k, none⟩) (by simp; omega)).trans e0
  exact in_any k j d.fb ob d.fr n ins.length none ic ib ioff vs W hf ho hkl hi (by rw [h.lens.1]; exact hjl) _ hr
theorem opKeep_no {o : TOp} (hk : o.fKind ≠ 4) (a kept : PRS) : opKeep o a kept = [] := by unfold opKeep; rw [if_neg hk]

set_option maxRecDepth 100000 in
set_option maxHeartbeats 4000000 in
theorem at_union {B n i : Nat} {d : RD} {ops : List TOp} {s : ST} {recs : List TRecord} {vs ns : List Value} (w : World) (h : RunW w B d n ops s recs vs ns) (hi : i < n) (o : TOp) (ho : ops[i]? = some o) (hk : o.fKind = 6)
    (hnil : ns[i]? = some (.slice none 0 0)) (a b kept : PRS) (ha : InAt w o.fIn vs 0 a) (hb : InAt w o.fIn vs 1 b) :
    Calls Try.prog 28 (d.args i) w (AtPost w B d n ops s recs vs ns i (opOut o a b kept recs) (opKeep o a kept)) := by
  have hout : opOut o a b kept recs = a ++ b := by unfold opOut; rw [if_neg (by omega), if_pos hk]
  have hkeep : opKeep o a kept = [] := opKeep_no (by omega) a kept
  have hset := set_nil hnil
  obtain ⟨iR, hiR, hR0, hR1, hR2⟩ := partsR
  have hio : i < ops.length := by rw [← h.len]; exact hi
  have hoe : ops[i] = o := by rw [List.getElem?_eq_getElem hio] at ho; simpa using ho
  obtain ⟨gb, goff, hga, hgb, hgc⟩ := h.hops.addr (by omega)
  have hget := h.hops
  rw [hga] at hget
  obtain ⟨ia, ic, k0, k1, k2, k3, k4, k5, k6, _, hins, _⟩ := ROp.at hget hio hoe
  have g0 := h.g.cellAt (i := 0) (v := .slice d.ga n d.gcap) rfl
  rw [hga] at g0
  have hBw := h.hB
  have hgbw : gb < w.heap.size := by omega
  obtain ⟨kind, ins, arg, num, rounds, test, lim⟩ := o
  dsimp only at hk k0 k1 k2 k3 k4 k5 k6 hins
  subst hk
  unfold RD.args
  replace hout := Lib.hid hout
  replace hkeep := Lib.hid hkeep
  replace hset := Lib.hid hset
  replace hga := Lib.hid hga
  replace ho := Lib.hid ho
  replace hoe := Lib.hid hoe
  replace hnil := Lib.hid hnil
  replace h := Lib.hid h
  clear hget hgc
  obtain ⟨il, hil⟩ : ∃ il, il = ins.length := ⟨_, rfl⟩
  rw [← hil] at k1
  replace hil := Lib.hid hil
  go_enter Try.func28, Try.ntmps28
  go_upto_region 2 with fail
  refine Code.wp_world ?_
  intro w1 hw1
  have hb1 : Below w.heap.size w w1 := by rw [hw1]; exact belowAlloc _ _
  have hQ1 : Blk w1 w.heap.size #[.int .i64 6, .slice ia il ic, .int .i64 arg, .int .u32 num, .int .i64 rounds, .int .i64 test, .int .u32 lim] 51 := by rw [hw1]; exact Blk.new _ _ _
  obtain ⟨ob, hob⟩ : ∃ ob, ob = w.heap.size := ⟨_, rfl⟩
  have hob1 : ob < w1.heap.size := by rw [hob]; exact hQ1.lt
  rw [← hob] at hQ1 ⊢
  have q0 := hQ1.cellAt (i := 0) (v := .int .i64 6) rfl
  have q1 := hQ1.cellAt (i := 1) (v := .slice ia il ic) rfl
  have q2 := hQ1.cellAt (i := 2) (v := .int .i64 arg) rfl
  have q3 := hQ1.cellAt (i := 3) (v := .int .u32 num) rfl
  have q4 := hQ1.cellAt (i := 4) (v := .int .i64 rounds) rfl
  have q5 := hQ1.cellAt (i := 5) (v := .int .i64 test) rfl
  have q6 := hQ1.cellAt (i := 6) (v := .int .u32 lim) rfl
  replace hob := Lib.hid hob
  clear hw1 k0 k1 k2 k3 k4 k5 k6 g0
  obtain ⟨ao, ac, hca, hPa, hoka, hla⟩ := in_call h.out hins ha
  obtain ⟨bo, bc, hcb, hPb, hokb, hlb⟩ := in_call h.out hins hb
  try dsimp only at hca hcb
  rw [← hil.out] at hca hcb
  have hca1 := hca w1 ob hb1 q1
  obtain ⟨na, hna⟩ : ∃ na, na = a.length := ⟨_, rfl⟩
  obtain ⟨nb, hnb⟩ : ∃ nb, nb = b.length := ⟨_, rfl⟩
  rw [← hna] at hca1 hla
  rw [← hnb] at hcb hlb
  replace hna := Lib.hid hna
  replace hnb := Lib.hid hnb
  replace hca1 := Lib.hid hca1
  replace hcb := Lib.hid hcb
  clear hca q2 q3 q4 q5 q6 ha hb
  go_wp2_with fail
  refine hca1.out.mono ?_
  rintro e w2 ⟨rfl, hb2⟩
  have hb12 := hb1.trans (hb2.mono hb1.size)
  have hcl := cloneR_any a ao ac w.heap.size w2 hb12.size (hPa w2 hb12) (by have := hna.out; omega)
  rw [← hna.out] at hcl
  have q12 := (hb2.cell (p := ⟨ob, 1, none⟩) hob1).trans q1
  have hob2 := Nat.lt_of_lt_of_le hob1 hb2.size
  replace hcl := Lib.hid hcl
  clear hca1 q1
  dsimp only
  go_wp2_with fail
  refine hcl.out.mono ?_
  rintro e w3 ⟨v3, rfl, hown3, hb3⟩
  have hb13 := hb12.trans (hb3.mono hb12.size)
  have hcb3 := hcb.out w3 ob hb13 ((hb3.cell (p := ⟨ob, 1, none⟩) hob2).trans q12)
  replace hcb3 := Lib.hid hcb3
  clear hcl hcb q12
  dsimp only
  go_wp2_with fail
  refine hcb3.out.mono ?_
  rintro e w4 ⟨rfl, hb4⟩
  have hown4 := hown3.below hb4 (Nat.le_refl _)
  have hb14 := hb13.trans (hb4.mono hb13.size)
  have hPb4 := hPb w4 hb14
  have hb2s := hb12.size
  have hb24 := (hb3.trans (hb4.mono hb3.size)).size
  clear hcb3 hown3
  dsimp only
  go_wp2_with (at_builtin; refine Shut.out ?ka)
  unfold Shut
  refine wpList_app_sla (xs := a) (ys := b) (enc := encR) (base := w2.heap.size) _ rfl _ _ 29 rfl Try.underlying29 hiR hR0 hR1 hR2 rfl (by decide) rfl hown4 (by show Value.slice bo nb bc = _; rw [hnb.out]) hPb4 encR_len encR_one (by have := hna.out; have := hnb.out; unfold maxLen; omega) (by have := hna.out; have := hnb.out; omega) hb24 (fun v5 w5 hown5 hgr5 => ?_)
  have hb45 : Below w2.heap.size w4 w5 := (Below.refl _ _).grown hgr5 hb24 (fun g e => (hown4.lt g e).1)
  have hb25 : Below w2.heap.size w2 w5 := (hb3.trans (hb4.mono hb3.size)).trans hb45
  clear hown4 hPb4 hgr5
  go_wp2_with fail
  go_ret
  exact at_done h.out hset.out hb12 hb25 hown5 (by rw [hout.out]) hkeep.out

set_option maxRecDepth 100000 in
set_option maxHeartbeats 4000000 in
theorem at_join {B n i : Nat} {d : RD} {ops : List TOp} {s : ST} {recs : List TRecord} {vs ns : List Value} (w : World) (h : RunW w B d n ops s recs vs ns) (hi : i < n) (o : TOp) (ho : ops[i]? = some o) (hk : o.fKind = 5)
    (hnil : ns[i]? = some (.slice none 0 0)) (a b kept : PRS) (ha : InAt w o.fIn vs 0 a) (hb : InAt w o.fIn vs 1 b) :
    Calls Try.prog 28 (d.args i) w (AtPost w B d n ops s recs vs ns i (opOut o a b kept recs) (opKeep o a kept)) := by
  have hout : opOut o a b kept recs = joinOut o.fArg a b := by unfold opOut; rw [if_neg (by omega), if_neg (by omega), if_neg (by omega), if_pos hk]
  have hkeep : opKeep o a kept = [] := opKeep_no (by omega) a kept
  have hset := set_nil hnil
  obtain ⟨iR, hiR, hR0, hR1, hR2⟩ := partsR
  have hio : i < ops.length := by rw [← h.len]; exact hi
  have hoe : ops[i] = o := by rw [List.getElem?_eq_getElem hio] at ho; simpa using ho
  obtain ⟨gb, goff, hga, hgb, hgc⟩ := h.hops.addr (by omega)
  have hget := h.hops
  rw [hga] at hget
  obtain ⟨ia, ic, k0, k1, k2, k3, k4, k5, k6, _, hins, _⟩ := ROp.at hget hio hoe
  have g0 := h.g.cellAt (i := 0) (v := .slice d.ga n d.gcap) rfl
  rw [hga] at g0
  have hBw := h.hB
  have hgbw : gb < w.heap.size := by omega
  obtain ⟨kind, ins, arg, num, rounds, test, lim⟩ := o
  dsimp only at hk k0 k1 k2 k3 k4 k5 k6 hins
  subst hk
  unfold RD.args
  replace hout := Lib.hid hout
  replace hkeep := Lib.hid hkeep
  replace hset := Lib.hid hset
  replace hga := Lib.hid hga
  replace ho := Lib.hid ho
  replace hoe := Lib.hid hoe
  replace hnil := Lib.hid hnil
  replace h := Lib.hid h
  clear hget hgc
  obtain ⟨il, hil⟩ : ∃ il, il = ins.length := ⟨_, rfl⟩
  rw [← hil] at k1
  replace hil := Lib.hid hil
  go_enter Try.func28, Try.ntmps28
  go_upto_region 2 with fail
  refine Code.wp_world ?_
  intro w1 hw1
  have hb1 : Below w.heap.size w w1 := by rw [hw1]; exact belowAlloc _ _
  have hQ1 : Blk w1 w.heap.size #[.int .i64 5, .slice ia il ic, .int .i64 arg, .int .u32 num, .int .i64 rounds, .int .i64 test, .int .u32 lim] 51 := by rw [hw1]; exact Blk.new _ _ _
  obtain ⟨ob, hob⟩ : ∃ ob, ob = w.heap.size := ⟨_, rfl⟩
  have hob1 : ob < w1.heap.size := by rw [hob]; exact hQ1.lt
  rw [← hob] at hQ1 ⊢
  have q0 := hQ1.cellAt (i := 0) (v := .int .i64 5) rfl
  have q1 := hQ1.cellAt (i := 1) (v := .slice ia il ic) rfl
  have q2 := hQ1.cellAt (i := 2) (v := .int .i64 arg) rfl
  have q3 := hQ1.cellAt (i := 3) (v := .int .u32 num) rfl
  have q4 := hQ1.cellAt (i := 4) (v := .int .i64 rounds) rfl
  have q5 := hQ1.cellAt (i := 5) (v := .int .i64 test) rfl
  have q6 := hQ1.cellAt (i := 6) (v := .int .u32 lim) rfl
  replace hob := Lib.hid hob
  clear hw1 k0 k1 k2 k3 k4 k5 k6 g0
  obtain ⟨ao, ac, hca, hPa, hoka, hla⟩ := in_call h.out hins ha
  obtain ⟨bo, bc, hcb, hPb, hokb, hlb⟩ := in_call h.out hins hb
  try dsimp only at hca hcb
  rw [← hil.out] at hca hcb
  have hd1 : Below w1.heap.size w1 w1.drew := (Below.refl _ _).drew
  have hca1 := hca w1.drew ob (hb1.trans (hd1.mono hb1.size)) q1
  have hjn := fun W (hW : Below w.heap.size w W) => joined_any arg a b ao bo ac bc w.heap.size W hW.size (hPa W hW) (hPb W hW) hoka hokb (by omega) (by omega)
  obtain ⟨na, hna⟩ : ∃ na, na = a.length := ⟨_, rfl⟩
  obtain ⟨nb, hnb⟩ : ∃ nb, nb = b.length := ⟨_, rfl⟩
  rw [← hna] at hca1
  rw [← hnb] at hcb
  rw [← hna, ← hnb] at hjn
  replace hna := Lib.hid hna
  replace hnb := Lib.hid hnb
  replace hca1 := Lib.hid hca1
  replace hcb := Lib.hid hcb
  replace hjn := Lib.hid hjn
  clear hca q3 q4 q5 q6 ha hb
  go_upto_region 31 with fail
  refine wp_region_tree (fun wx => wx.cell? ⟨ob, 2, none⟩ = some (.int .i64 arg)) 7 8 (by kernel_rfl) rfl (by kernel_rfl) (fun d _ _ _ _ h => by cases d <;> exact h) (q2) (fun opz T hOps hT hTok hHeld => ?_)
  (refine wpTree_q 0 hTok hOps (by kernel_rfl) rfl rfl ⟨?_, ?_, ?_⟩; rotate_left; (focus (intro wx hSx; (try dsimp only at hSx); go_simp; (try with_reducible rfl))); (simp only [Act.put, List.setIfInBounds_toArray, List.set_cons_zero, List.set_cons_succ]))
  (refine wpTree_q 1 hTok hOps (by kernel_rfl) rfl rfl ⟨?_, ?_, ?_⟩; rotate_left; (focus (intro wx hSx; (try dsimp only at hSx); go_simp; (try with_reducible rfl))); (simp only [Act.put, List.setIfInBounds_toArray, List.set_cons_zero, List.set_cons_succ]))
  (refine wpTree_q 2 hTok hOps (by kernel_rfl) rfl rfl ⟨?_, ?_, ?_⟩; rotate_left; (focus (intro wx hSx; (try dsimp only at hSx); go_simp; (try with_reducible rfl))); (simp only [Act.put, List.setIfInBounds_toArray, List.set_cons_zero, List.set_cons_succ]))
  (refine wpTree_q 4 hTok hOps (by kernel_rfl) rfl rfl ⟨?_, ?_, ?_⟩; rotate_left; (focus (intro wx hSx; (try dsimp only at hSx); go_simp; (try with_reducible rfl))); (simp only [Act.put, List.setIfInBounds_toArray, List.set_cons_zero, List.set_cons_succ]))
  refine wpTree_1 3 hOps (by kernel_rfl) (by decide) rfl (fun K' hK => ?_)
  go_simp
  refine hca1.out.mono ?_
  rintro e w2 ⟨rfl, hb2⟩
  have hb12 : Below w.heap.size w w2 := hb1.trans ((hd1.trans hb2).mono hb1.size)
  have q12 := (hb2.cell (p := ⟨ob, 1, none⟩) hob1).trans q1
  have q22 := (hb2.cell (p := ⟨ob, 2, none⟩) hob1).trans q2
  have hob2 : ob < w2.heap.size := Nat.lt_of_lt_of_le hob1 hb2.size
  have hcb2 := hcb.out w2 ob hb12 q12
  replace hcb2 := Lib.hid hcb2
  dsimp only
  refine hK.out _ _ q22 ?_
  clear hK K' hca1 hcb q1 q2 hHeld
  try simp only [Act.put, List.setIfInBounds_toArray, List.set_cons_zero, List.set_cons_succ]
  refine wpTree_1 5 hOps (by kernel_rfl) (by decide) rfl (fun K' hK => ?_)
  go_simp
  refine hcb2.out.mono ?_
  rintro e w3 ⟨rfl, hb3⟩
  have hb13 := hb12.trans (hb3.mono hb12.size)
  have q23 := (hb3.cell (p := ⟨ob, 2, none⟩) hob2).trans q22
  have hjn3 := hjn.out w3 hb13
  replace hjn3 := Lib.hid hjn3
  dsimp only
  refine hK.out _ _ q23 ?_
  clear hK K' hcb2 hjn q12 q22
  try simp only [Act.put, List.setIfInBounds_toArray, List.set_cons_zero, List.set_cons_succ]
  refine wpTree_1 6 hOps (by kernel_rfl) (by decide) rfl (fun K' hK => ?_)
  go_simp
  refine hjn3.out.mono ?_
  rintro e w4 ⟨v4, L4, rfl, hown4, hp4, hb4⟩
  have hb34 := hob2
  have q24 : w4.cell? ⟨ob, 2, none⟩ = some (.int .i64 arg) := (hb4.cell (p := ⟨ob, 2, none⟩) (Nat.lt_of_lt_of_le hob2 hb3.size)).trans q23
  dsimp only
  refine hK.out _ _ q24 ?_
  clear hK K' hjn3 q23 q24 hb34
  try simp only [Act.put, List.setIfInBounds_toArray, List.set_cons_zero, List.set_cons_succ]
  refine wpTree_nil hOps (by kernel_rfl) ?_
  refine hT.out _ _ ?_
  simp only [List.drop_succ_cons, List.drop_zero]
  clear hTok hOps hT
  go_wp2_with fail
  go_ret
  exact at_done h.out hset.out hb13 hb4 hown4 (by rw [hout.out]; exact hp4) hkeep.out
end Go.Proofs.Ytbianedgogdeeaa
