/- Model: Run goes through. -/
import Derived.Test.YtbianedgogdeeaaMp
namespace Go.Proofs.Ytbianedgogdeeaa
open Go.RowKit Go.Maps Fold Go.Lib
attribute [local go_sem] Oper.semAt_some
set_option linter.unusedVariables false
set_option linter.unusedSimpArgs false

theorem okB_of_check {ops : List TOp} (h : (gcheck ops).2 = 0) : (1 ≤ ops.length ∧ ops.length ≤ 16) ∧ ∀ k o, ops[k]? = some o → okB o k ops.length = true := by
  have hl : ¬ (ops.length < 1 ∨ 16 < ops.length) := fun hl => by
    unfold gcheck at h
    rw [if_pos hl] at h
    cases h
  refine ⟨by omega, fun k o ho => ?_⟩
  have hk : k < ops.length := by
    rcases Nat.lt_or_ge k ops.length with h1 | h1
    · exact h1
    · rw [List.getElem?_eq_none h1] at ho; cases ho
  rw [List.getElem?_eq_getElem hk] at ho
  simp only [Option.some.injEq] at ho
  rcases ops_cases ops with h1 | ⟨m, hm, hbad, hgood⟩
  · rw [← ho]; exact h1 k hk
  · unfold gcheck at h
    rw [if_neg hl, badFrom_hit hm hbad hgood] at h
    cases h
theorem goodS_facts {ops : List TOp} {s : ST} (h : goodS ops s = true) : (s.length = 0 ∨ s.length = ops.length) ∧ ∀ i, Srt (keptAt s i) := by
  rw [goodS_eq, Bool.or_eq_true, Bool.and_eq_true, decide_eq_true_eq, decide_eq_true_eq, List.all_eq_true] at h
  rcases h with h | ⟨h1, h2⟩
  · exact ⟨.inl h, fun i => by rw [keptAt_nil h]; exact List.Pairwise.nil⟩
  · refine ⟨.inr h1, fun i => ?_⟩
    by_cases hi : i < s.length
    · have := h2 i (List.mem_range.2 hi)
      unfold goodI goodL at this
      simp only [Bool.and_eq_true, decide_eq_true_eq] at this
      exact this.2.2
    · unfold keptAt
      rw [List.getElem?_eq_none (by omega)]
      exact List.Pairwise.nil
/-- What is kept so far. -/
structure Kpt (w : World) (base : Nat) (ns : List Value) (nst : ST) (i n : Nat) : Prop where
  len : nst.length = i
  at' : ∀ j (hj : j < nst.length), ∃ v, ns[j]? = some v ∧ OwnR w base v nst[j]
  nil : ∀ j, i ≤ j → j < n → ns[j]? = some (.slice none 0 0)
/-- Run's loop: behind i operators. -/
structure RunL (w wr : World) (B : Nat) (d : RD) (n : Nat) (ops : List TOp) (s : ST) (recs : List TRecord) (R : Option (List PRS × ST)) (cb i : Nat) (vs ns : List Value) (f : List PRS) (nst : ST) : Prop where
  mem : RunW wr B d n ops s recs vs ns
  fnd : Fnd wr w.heap.size vs f
  fl : f.length = i
  kp : Kpt wr w.heap.size ns nst i n
  bel : Below w.heap.size w wr
  cB : Blk wr cb #[.slice none 0 0] 27
  b1 : w.heap.size ≤ d.fr
  b2 : w.heap.size ≤ d.nr
  run : runF s recs (ops.drop i) f nst = R
theorem Fnd.chg {w w' : World} {base : Nat} {vs : List Value} {f : List PRS} {S : Nat → Prop} (h : Fnd w base vs f) (hc : Chg S w w') (hS : ∀ k, S k → ∃ cs, Blk w k cs 29) : Fnd w' base vs f := fun j hj => by
  obtain ⟨v, l, h1, h2, h3⟩ := h j hj
  exact ⟨v, l, h1, h2.chg hc (fun g e s => by
    obtain ⟨cs, hb⟩ := hS g s
    exact h2.ne_blk hb (by decide) e), h3⟩
theorem Kpt.chg {w w' : World} {base i n : Nat} {ns : List Value} {nst : ST} {S : Nat → Prop} (h : Kpt w base ns nst i n) (hc : Chg S w w') (hS : ∀ k, S k → ∃ cs, Blk w k cs 29) : Kpt w' base ns nst i n :=
  ⟨h.len, fun j hj => by
    obtain ⟨v, h1, h2⟩ := h.at' j hj
    exact ⟨v, h1, h2.chg hc (fun g e s => by
      obtain ⟨cs, hb⟩ := hS g s
      exact h2.ne_blk hb (by decide) e)⟩, h.nil⟩
theorem RunW.setF {w : World} {B n : Nat} {d : RD} {ops : List TOp} {st : ST} {recs : List TRecord} {vs ns : List Value} (h : RunW w B d n ops st recs vs ns) (hfr : B ≤ d.fr) {i : Nat} (v : Value) : RunW (w.setCell ⟨d.fr, i, none⟩ v) B d n ops st recs (vs.set i v) ns := by
  have hc : Chg (fun k => k = d.fr) w (w.setCell ⟨d.fr, i, none⟩ v) := (Chg.refl _ _).setCell _ _ (fun _ => rfl)
  have hb : Below B w (w.setCell ⟨d.fr, i, none⟩ v) := hc.below h.hB (fun k hk e => by omega)
  have hne : ∀ {b : Nat} {cs : Array Value} {T : TypeId}, Blk w b cs T → T ≠ 29 → ¬ b = d.fr := fun {b cs T} hbk hT e => by
    subst e
    have h1 := h.frow
    unfold Blk at hbk h1
    rw [hbk] at h1
    simp only [Option.some.injEq, Obj.cells.injEq] at h1
    exact hT h1.2.1
  refine ⟨h.len, ⟨by rw [List.length_set]; exact h.lens.1, h.lens.2⟩, h.g.chg hc (hne h.g (by decide)), h.f.chg hc (hne h.f (by decide)), ?_, h.r.chg hc (hne h.r (by decide)), h.sblk.chg hc (hne h.sblk (by decide)), h.nx.chg hc (hne h.nx (by decide)), h.nrow.chg hc (fun e => h.ne e.symm), imp_ops h.hops hb,
    h.hrec.imp hb (Nat.le_refl _) (fun _ _ _ h => h.imp hb (Nat.le_refl _)), h.hst.imp' hb (Nat.le_refl _), h.ne, h.bn⟩
  have := h.frow.set i v
  rwa [List.setIfInBounds_toArray] at this
theorem inAt_ok {w : World} {base : Nat} {vs : List Value} {f : List PRS} (h : Fnd w base vs f) (o : TOp) (k : Nat) : okL (inAt f o k) := by
  unfold inAt
  cases hk : o.fIn[k]? with
  | none => exact fun p hp => absurd hp (by simp)
  | some j =>
    cases hj : f[j.toNat]? with
    | none => exact fun p hp => absurd hp (by simp [hj])
    | some l =>
      have hlt : j.toNat < f.length := by
        rcases Nat.lt_or_ge j.toNat f.length with h1 | h1
        · exact h1
        · rw [List.getElem?_eq_none h1] at hj; cases hj
      obtain ⟨v, l2, _, _, h3, h4, _⟩ := h j.toNat hlt
      have : f[j.toNat] = l := by rw [List.getElem?_eq_getElem hlt] at hj; simpa using hj
      rw [this] at h3
      intro p hp
      simp only [Option.bind_some, hj, Option.getD_some] at hp
      exact h4 p (h3.mem_iff.2 hp)
namespace RunL
variable {w wr w1 : World} {B n cb i : Nat} {d : RD} {ops : List TOp} {s : ST} {recs : List TRecord} {R : Option (List PRS × ST)} {vs ns : List Value} {f : List PRS} {nst : ST}
theorem outOk (h : RunL w wr B d n ops s recs R cb i vs ns f nst) (hsok : okS s) {o : TOp} (ho : ops[i]? = some o) (hok : okB o i n = true) : okL (opOut o (inAt f o 0) (inAt f o 1) (keptAt s i) recs) := by
  obtain ⟨cs, hoc⟩ := SlA.all h.mem.hops o (List.mem_of_getElem? ho)
  obtain ⟨nn, ll, hnn, _, hnlt, _⟩ := op_wf hoc
  refine opOut_ok hok (by rw [hnn]; simpa using hnlt) (inAt_ok h.fnd o 0) (inAt_ok h.fnd o 1) (fun p hp => ?_) (fun r hr => ?_)
  · unfold keptAt at hp
    cases hg : s[i]? with
    | none => rw [hg] at hp; cases hp
    | some l => rw [hg] at hp; exact hsok l (List.mem_of_getElem? hg) p hp
  · obtain ⟨cs, hrc⟩ := SlA.all h.mem.hrec r hr
    exact (rec_ok hrc).1
theorem step (h : RunL w wr B d n ops s recs R cb i vs ns f nst) (hi : i < n) (hsok : okS s) {o : TOp} (ho : ops[i]? = some o) (hok : okB o i n = true) (hbw : B ≤ w.heap.size) {v kv : Value} {l : PRS} (hown : OwnR w1 wr.heap.size v l) (hp : l.Perm (opOut o (inAt f o 0) (inAt f o 1) (keptAt s i) recs))
    (hrw : RunW w1 B d n ops s recs vs (ns.set i kv)) (hkv : OwnR w1 wr.heap.size kv (opKeep o (inAt f o 0) (keptAt s i))) (hc : Chg (fun k => k = d.nr) wr w1) (hlen : l.length ≤ 4096) :
    RunL w (w1.setCell ⟨d.fr, i, none⟩ v) B d n ops s recs R cb (i + 1) (vs.set i v) (ns.set i kv) (f ++ [opOut o (inAt f o 0) (inAt f o 1) (keptAt s i) recs]) (nst ++ [opKeep o (inAt f o 0) (keptAt s i)]) := by
  have hc2 : Chg (fun k => k = d.fr) w1 (w1.setCell ⟨d.fr, i, none⟩ v) := (Chg.refl _ _).setCell _ _ (fun _ => rfl)
  have hS1 : ∀ k, k = d.nr → ∃ cs, Blk wr k cs 29 := fun k e => by subst e; exact ⟨_, h.mem.nrow⟩
  have hS2 : ∀ k, k = d.fr → ∃ cs, Blk w1 k cs 29 := fun k e => by subst e; exact ⟨_, hrw.frow⟩
  have hws := h.bel.size
  have hf1 := (h.fnd.chg hc hS1).chg hc2 hS2
  have hk1 := (h.kp.chg hc hS1).chg hc2 hS2
  have hov := hown.chg hc2 (fun g e e2 => by subst e2; exact hown.ne_blk hrw.frow (by decide) e)
  have hok2 := hkv.chg hc2 (fun g e e2 => by subst e2; exact hkv.ne_blk hrw.frow (by decide) e)
  have hlv : i < vs.length := by rw [← h.mem.lens.1]; exact hi
  have hln : i < ns.length := by rw [← h.mem.lens.2]; exact hi
  have hil : i < ops.length := by rw [← h.mem.len]; exact hi
  have hoe : ops[i] = o := by rw [List.getElem?_eq_getElem hil] at ho; simpa using ho
  refine ⟨hrw.setF (Nat.le_trans hbw h.b1) v, fun j hj => ?_, by rw [List.length_append, h.fl]; rfl, ⟨by rw [List.length_append, h.kp.len]; rfl, fun j hj => ?_, fun j h1 h2 => ?_⟩, ?_, ?_, h.b1, h.b2, ?_⟩
  · rw [List.length_append, h.fl] at hj
    simp only [List.length_cons, List.length_nil] at hj
    by_cases e : j = i
    · subst e
      refine ⟨v, l, by simp [hlv], hov.base_le hws, ?_, (h.outOk hsok ho hok).perm hp.symm, hlen⟩
      rw [List.getElem_append_right (by rw [h.fl]; exact Nat.le_refl _)]
      simpa [h.fl] using hp
    · obtain ⟨v', l', h1, h2, h3⟩ := hf1 j (by rw [h.fl]; omega)
      refine ⟨v', l', by rw [List.getElem?_set_ne (fun e2 => e e2.symm)]; exact h1, h2, ?_⟩
      rw [List.getElem_append_left (by rw [h.fl]; omega)]
      exact h3
  · rw [List.length_append, h.kp.len] at hj
    simp only [List.length_cons, List.length_nil] at hj
    by_cases e : j = i
    · subst e
      refine ⟨kv, by simp [hln], ?_⟩
      rw [List.getElem_append_right (by rw [h.kp.len]; exact Nat.le_refl _)]
      simpa [h.kp.len] using hok2.base_le hws
    · obtain ⟨v', h1, h2⟩ := hk1.at' j (by rw [h.kp.len]; omega)
      refine ⟨v', by rw [List.getElem?_set_ne (fun e2 => e e2.symm)]; exact h1, ?_⟩
      rw [List.getElem_append_left (by rw [h.kp.len]; omega)]
      exact h2
  · rw [List.getElem?_set_ne (by omega)]
    exact h.kp.nil j (by omega) h2
  · exact h.bel.trans ((hc.below hws (fun k hk e => by have := h.b2; omega)).trans (hc2.below (Nat.le_trans hws hc.size) (fun k hk e => by have := h.b1; omega)))
  · have hcn : ∀ {k : Nat} {ww : World} {cs : Array Value}, Blk ww cb #[.slice none 0 0] 27 → Blk ww k cs 29 → ¬ cb = k := fun {k ww cs} h1 h2 e => by
      subst e
      unfold Blk at h1 h2
      rw [h1] at h2
      simp only [Option.some.injEq, Obj.cells.injEq] at h2
      exact absurd h2.2.1 (by decide)
    have h1 := h.cB.chg hc (hcn h.cB h.mem.nrow)
    exact h1.chg hc2 (hcn h1 hrw.frow)
  · rw [← h.run, List.drop_eq_getElem_cons hil, hoe, runF, h.fl, if_neg (by rw [← hp.length_eq]; omega)]
theorem after (h : RunL w wr B d n ops s recs R cb i vs ns f nst) (hbw : B ≤ w.heap.size) (v : Value) {kv : Value} (hrw : RunW w1 B d n ops s recs vs (ns.set i kv)) (hc : Chg (fun k => k = d.nr) wr w1) :
    RunW (w1.setCell ⟨d.fr, i, none⟩ v) B d n ops s recs (vs.set i v) (ns.set i kv) ∧ Below w.heap.size w (w1.setCell ⟨d.fr, i, none⟩ v) ∧ Blk (w1.setCell ⟨d.fr, i, none⟩ v) cb #[.slice none 0 0] 27 := by
  have hc2 : Chg (fun k => k = d.fr) w1 (w1.setCell ⟨d.fr, i, none⟩ v) := (Chg.refl _ _).setCell _ _ (fun _ => rfl)
  have hws := h.bel.size
  refine ⟨hrw.setF (Nat.le_trans hbw h.b1) v, ?_, ?_⟩
  · exact h.bel.trans ((hc.below hws (fun k hk e => by have := h.b2; omega)).trans (hc2.below (Nat.le_trans hws hc.size) (fun k hk e => by have := h.b1; omega)))
  · have hcn : ∀ {k : Nat} {ww : World} {cs : Array Value}, Blk ww cb #[.slice none 0 0] 27 → Blk ww k cs 29 → ¬ cb = k := fun {k ww cs} h1 h2 e => by
      subst e
      unfold Blk at h1 h2
      rw [h1] at h2
      simp only [Option.some.injEq, Obj.cells.injEq] at h2
      exact absurd h2.2.1 (by decide)
    have h1 := h.cB.chg hc (hcn h.cB h.mem.nrow)
    exact h1.chg hc2 (hcn h1 hrw.frow)
theorem below (h : RunL w wr B d n ops s recs R cb i vs ns f nst) (hb : Below wr.heap.size wr w1) : RunL w w1 B d n ops s recs R cb i vs ns f nst :=
  ⟨h.mem.below hb h.mem.hB, fun j hj => by
    obtain ⟨v, l, h1, h2, h3⟩ := h.fnd j hj
    exact ⟨v, l, h1, h2.below hb (Nat.le_refl _), h3⟩, h.fl, ⟨h.kp.len, fun j hj => by
    obtain ⟨v, h1, h2⟩ := h.kp.at' j hj
    exact ⟨v, h1, h2.below hb (Nat.le_refl _)⟩, h.kp.nil⟩, h.bel.trans (hb.mono h.bel.size), h.cB.below hb h.cB.lt, h.b1, h.b2, h.run⟩
theorem long (h : RunL w wr B d n ops s recs R cb i vs ns f nst) (hi : i < n) {o : TOp} (ho : ops[i]? = some o) {l : PRS} (hp : l.Perm (opOut o (inAt f o 0) (inAt f o 1) (keptAt s i) recs)) (hlen : 4096 < l.length) : R = none := by
  have hil : i < ops.length := by rw [← h.mem.len]; exact hi
  have hoe : ops[i] = o := by rw [List.getElem?_eq_getElem hil] at ho; simpa using ho
  rw [← h.run, List.drop_eq_getElem_cons hil, hoe, runF, h.fl, if_pos (by rw [← hp.length_eq]; exact hlen)]
theorem fin (h : RunL w wr B d n ops s recs R cb n vs ns f nst) : R = some (f, nst) := by
  rw [← h.run, List.drop_of_length_le (by rw [h.mem.len]; exact Nat.le_refl _), runF]
theorem done (h : RunL w wr B d n ops s recs R cb n vs ns f nst) (hn : 0 < n) (hn16 : n ≤ 16) (hcb : w.heap.size ≤ cb) {w9 : World} {v' : Value} {l : PRS} (hb : Below wr.heap.size wr w9) (ho : OwnR w9 wr.heap.size v' (sortP l)) (hl : ∀ q, n = q + 1 → ∃ g, f[q]? = some g ∧ l.Perm g) :
    RunPost2 w (sortP (f.getLast?.getD []), nst, 0) (.returned (.tuple #[v', .agg #[.slice (some ⟨d.nr, 0, none⟩) n n], .int .i64 0])) (w9.setCell ⟨cb, 0, none⟩ (.slice (some ⟨d.nr, 0, none⟩) n n)) := by
  have h9 := h.below hb
  have hc : Chg (fun k => k = cb) w9 (w9.setCell ⟨cb, 0, none⟩ (.slice (some ⟨d.nr, 0, none⟩) n n)) := (Chg.refl _ _).setCell _ _ (fun _ => rfl)
  have hrow : ∀ {u : Value} {k : PRS} {base : Nat}, OwnR w9 base u k → OwnR (w9.setCell ⟨cb, 0, none⟩ (.slice (some ⟨d.nr, 0, none⟩) n n)) base u k := fun {u k base} hu => hu.chg hc (fun g e e2 => by subst e2; exact hu.ne_blk h9.cB (by decide) e)
  obtain ⟨q, rfl⟩ : ∃ q, n = q + 1 := ⟨n - 1, by omega⟩
  obtain ⟨g, hg, hp⟩ := hl q rfl
  have hlast : f.getLast?.getD [] = g := by
    rw [List.getLast?_eq_getElem?, h.fl, Nat.add_sub_cancel, hg]
    rfl
  have hnl : ns.length = q + 1 := h.mem.lens.2.symm
  have hnr : Blk (w9.setCell ⟨cb, 0, none⟩ (.slice (some ⟨d.nr, 0, none⟩) (q + 1) (q + 1))) d.nr ns.toArray 29 := by
    refine h9.mem.nrow.chg hc (fun e => ?_)
    have h1 := h9.cB
    have h2 := h9.mem.nrow
    rw [← e] at h1
    unfold Blk at h1 h2
    rw [h2] at h1
    simp only [Option.some.injEq, Obj.cells.injEq] at h1
    exact absurd h1.2.1 (by decide)
  refine ⟨v', _, wr.heap.size, rfl, ?_, .inr ⟨d.nr, ns, by rw [hnl], hnr, h.b2, by rw [hnl, h.kp.len], ⟨by omega, by omega⟩, fun j hj => ?_⟩, ?_, h.bel.size, .inr ⟨d.nr, q + 1, ns, by rw [hnl], hnr, h.mem.nrow.lt, fun u hu g hg => ?_⟩⟩
  · rw [hlast, ← sortP_congr hp]
    exact hrow ho
  · obtain ⟨v, h1, h2⟩ := h9.kp.at' j hj
    exact ⟨v, h1, hrow h2⟩
  · exact h9.bel.trans (hc.below h9.bel.size (fun k hk e => by omega))
  · obtain ⟨j, hj, rfl⟩ := List.getElem_of_mem hu
    obtain ⟨v, h1, h2⟩ := h.kp.at' j (by rw [h.kp.len]; omega)
    rw [List.getElem?_eq_getElem hj] at h1
    simp only [Option.some.injEq] at h1
    rw [h1] at hg
    exact (OwnL.lt h2 g hg).2
end RunL
end Go.Proofs.Ytbianedgogdeeaa
