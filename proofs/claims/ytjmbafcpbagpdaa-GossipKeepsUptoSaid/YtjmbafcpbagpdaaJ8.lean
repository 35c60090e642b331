/- Gossip: New: the walk. -/
import Derived.Test.YtjmbafcpbagpdaaJ7
namespace Go.Proofs.Ytjmbafcpbagpdaa
open Go.RowKit Go.Shelf Go.Maps
set_option linter.unusedVariables false
set_option linter.unusedSimpArgs false

def encPt (t : Nat) : List Value := [.pointer (some ⟨t, 0, none⟩)]
theorem encPt_len (t : Nat) : (encPt t).length = 1 := rfl
theorem encPt_one (t : Nat) : ∀ u ∈ encPt t, u.oneCell' = true := by
  intro u hu
  simp only [encPt, List.mem_singleton] at hu
  subst hu
  rfl
theorem infoP : (Try.prog.info? 41).map (fun i => (i.zero, i.size, i.bytes)) = some (some (.pointer none), 1, 8) := by kernel_rfl
theorem eqlP_nil (u : World) (m cap : Nat) : (binOp BinOp.eql 67 (.slice none m cap) (.slice none 0 0)).run Try.prog u = .ok (.bool true) u := by kernel_rfl
theorem eqlP_some (u : World) (a : Addr) (m cap : Nat) : (binOp BinOp.eql 67 (.slice (some a) m cap) (.slice none 0 0)).run Try.prog u = .ok (.bool false) u := by kernel_rfl
attribute [local go_sem] eqlP_nil eqlP_some

set_option maxRecDepth 100000 in
set_option maxHeartbeats 1000000 in
theorem cloneP (l : List Nat) (base : Nat) (v : Value) (w : World) (h : OwnL encPt w base 41 1 v l) (hz : l.length ≤ 1000) :
    Calls Try.prog 22 #[v] w fun e w' => Below w.heap.size w w' ∧ ∃ v', e = .returned v' ∧ OwnL encPt w' w.heap.size 41 1 v' l := by
  obtain ⟨jP, hiP, hP0, hP1, hP2⟩ := info_parts infoP
  obtain ⟨ao, cap, rfl, hx⟩ := h.sla (E := fun _ cs x => cs = encPt x) encPt_len (fun _ _ => rfl)
  obtain ⟨m, hm⟩ : ∃ m, m = l.length := ⟨_, rfl⟩
  rw [← hm]
  clear h
  cases ao with
  | none =>
    have hm0 : l = [] := by
      cases l with
      | nil => rfl
      | cons a r =>
        obtain ⟨b, off, e, _⟩ := hx.addr (by simp)
        cases e
    subst hm0
    simp only [List.length_nil] at hm
    subst hm
    go_enter Try.func22, Try.ntmps22
    go_wp2_with fail
    go_ret
    exact ⟨Below.refl _ _, _, rfl, OwnL.nil _ _ _ _ _⟩
  | some a =>
    replace hm := Lib.hid hm
    go_enter Try.func22, Try.ntmps22
    go_wp2_with (at_builtin; refine Shut.out ?ka)
    unfold Shut
    have hown0 : OwnL encPt (w.alloc (.cells #[] 41)) w.heap.size 41 1 (.slice (some ⟨w.heap.size, 0, none⟩) 0 0) [] := OwnL.of_blk (xs := []) (cap := 0) (Blk.new w #[] 41) (Nat.le_refl _) (Nat.le_refl 0) (by unfold maxLen; omega) rfl rfl rfl
    have hii2 : SlA w.heap.size 1 (fun _ cs x => cs = encPt x) (w.alloc (.cells #[] 41)) (some a) cap l := hx.imp (below_allocJ w _) (Nat.le_refl _) (fun _ _ _ h => h)
    refine wpList_app_sla (xs := []) (ys := l) (enc := encPt) (base := w.heap.size) _ rfl _ _ 67 rfl Try.underlying67 hiP hP0 hP1 hP2 rfl (by decide) rfl hown0 (by show Value.slice (some a) m cap = _; rw [hm.out]) hii2 encPt_len encPt_one (by unfold maxLen; simp; omega) (by simp; omega) (by simp) (fun v3 w3 hown3 hgr3 => ?_)
    rw [List.nil_append] at hown3
    have hb23 : Below w.heap.size w w3 := (below_allocJ w (.cells #[] 41)).grown hgr3 (by simp) (fun g hg => by simp [Act.eval, Value.ownBlock] at hg; omega)
    clear hown0 hii2 hgr3
    go_wp2_with fail
    go_ret
    exact ⟨hb23, _, rfl, hown3⟩

theorem cs_nil {w : World} {base tb : Nat} {x : TrX} {ops : List TOp} {cs : List (TStamp × Int)} (h : Tr w base tb x ops cs) (h0 : cntC cs = fun _ => 0) : cs = [] := by
  cases cs with
  | nil => rfl
  | cons q r =>
    have h1 := h.nz q (by simp)
    have h2 := congrFun h0 q.1
    unfold cntC getC at h2
    simp at h2
    omega
def noWay : List Value := List.replicate 64 (.slice none 0 0)
/-- New has laid the truth t0, the gossip's block and the views ts. -/
structure N1 (w wr : World) (gb : Nat) (ops : List TOp) (t0 : TrP) (ts : List TrP) (vv : Value) : Prop where
  bel : Below w.heap.size w wr
  blk : Blk wr gb (.slice none 0 0 :: .pointer (some ⟨t0.tb, 0, none⟩) :: vv :: noWay).toArray 72
  own : OwnL encPt wr (gb + 1) 41 1 vv (ts.map (·.tb))
  trs : ∀ t ∈ t0 :: ts, TrI wr t ops (fun _ => 0) 0 ∧ w.heap.size ≤ t.base ∧ t.U ≤ wr.heap.size ∧ ¬ (t.base ≤ gb ∧ gb < t.U) ∧ (∀ b, vv.ownBlock = some b → ¬ (t.base ≤ b ∧ b < t.U))
  dis : (t0 :: ts).Pairwise (fun a b => a.U ≤ b.base)
  g1 : w.heap.size ≤ gb
namespace N1
variable {w wr w' : World} {gb : Nat} {ops : List TOp} {t0 : TrP} {ts : List TrP} {vv : Value}
theorem below (h : N1 w wr gb ops t0 ts vv) (hb : Below wr.heap.size wr w') : N1 w w' gb ops t0 ts vv := by
  have hs := hb.size
  refine ⟨h.bel.trans (hb.mono h.bel.size), h.blk.below hb h.blk.lt, h.own.below hb (Nat.le_refl _), fun t ht => ?_, h.dis, h.g1⟩
  obtain ⟨⟨t1, t2, t3⟩, t4, t5, t6, t7⟩ := h.trs t ht
  exact ⟨⟨t1.chgR (Chg.of_below hb) (fun k hk e => by omega) t2 t3, t2, t3⟩, t4, by omega, t6, t7⟩
/-- One more view. -/
theorem snoc {w2 w7 : World} {g cap : Nat} {t : TrP} (h : N1 w wr gb ops t0 ts vv) (hb : Below wr.heap.size wr w2) (ht : Tr w2 t.base t.tb t.x ops []) (hbase : t.base = wr.heap.size) (htU : t.U = w2.heap.size)
    (hown : OwnL encPt w7 (gb + 1) 41 1 (.slice (some ⟨g, 0, none⟩) (ts.length + 1) cap) (ts.map (·.tb) ++ [t.tb])) (hgr : Grew w2 vv w7 (.slice (some ⟨g, 0, none⟩) (ts.length + 1) cap)) :
    N1 w (w7.setCell ⟨gb, 2, none⟩ (.slice (some ⟨g, 0, none⟩) (ts.length + 1) cap)) gb ops t0 (ts ++ [t]) (.slice (some ⟨g, 0, none⟩) (ts.length + 1) cap) := by
  have h2 := h.below hb
  have hs2 := hb.size
  have hs7 := hgr.grown.size
  have hne : vv.ownBlock ≠ some gb := fun e => by have := (h.own.lt gb e).1; omega
  have hb7 := hgr.blk h2.blk hne
  have hc27 : Chg (fun k => vv.ownBlock = some k) w2 w7 := Chg.of_grown hgr.grown
  have hc78 : Chg (fun k => k = gb) w7 (w7.setCell ⟨gb, 2, none⟩ (.slice (some ⟨g, 0, none⟩) (ts.length + 1) cap)) := (Chg.refl (fun k => k = gb) w7).setCell ⟨gb, 2, none⟩ _ (fun _ => rfl)
  have hs8 := hc78.size
  have hg : ∀ b, (Value.slice (some ⟨g, 0, none⟩) (ts.length + 1) cap).ownBlock = some b → vv.ownBlock = some b ∨ w2.heap.size ≤ b := fun b hb' => by
    rcases hgr.place with e | ⟨g', e, hg'⟩
    · rw [← e]; exact .inl hb'
    · rw [e] at hb'; cases hb'; exact .inr hg'
  have hbl : w.heap.size ≤ wr.heap.size := h.bel.size
  have htb := ht.btb
  have hmb := ht.bmb
  have htl := ht.blk.lt
  have hml := ht.map.lt
  refine ⟨?_, ?_, ?_, fun t' ht' => ?_, ?_, h.g1⟩
  · have hb27 : Below w.heap.size w2 w7 := hc27.below h2.bel.size (fun k hk e => by have := (h.own.lt k e).1; have := h.g1; omega)
    exact (h2.bel.trans hb27).trans (hc78.below (by have := h2.bel.size; omega) (fun k hk e => by have := h.g1; omega))
  · have := hb7.set 2 (.slice (some ⟨g, 0, none⟩) (ts.length + 1) cap)
    rw [List.setIfInBounds_toArray] at this
    exact this
  · rw [List.map_append, List.map_singleton]
    exact hown.chg hc78 (fun b hb' e => by have := (hown.lt b hb').1; omega)
  · have hold : ∀ {u : TrP}, (TrI w2 u ops (fun _ => 0) 0 ∧ w.heap.size ≤ u.base ∧ u.U ≤ w2.heap.size ∧ ¬ (u.base ≤ gb ∧ gb < u.U) ∧ (∀ b, vv.ownBlock = some b → ¬ (u.base ≤ b ∧ b < u.U))) →
        (TrI (w7.setCell ⟨gb, 2, none⟩ (.slice (some ⟨g, 0, none⟩) (ts.length + 1) cap)) u ops (fun _ => 0) 0 ∧ w.heap.size ≤ u.base ∧ u.U ≤ (w7.setCell ⟨gb, 2, none⟩ (.slice (some ⟨g, 0, none⟩) (ts.length + 1) cap)).heap.size ∧ ¬ (u.base ≤ gb ∧ gb < u.U) ∧ (∀ b, (Value.slice (some ⟨g, 0, none⟩) (ts.length + 1) cap).ownBlock = some b → ¬ (u.base ≤ b ∧ b < u.U))) := by
      rintro u ⟨⟨t1, t2, t3⟩, t4, t5, t6, t7⟩
      refine ⟨⟨(t1.chgR hc27 (fun k hk e => t7 k hk e) t2 t3).chgR hc78 (fun k hk e => t6 (by rw [← hk]; exact e)) t2 t3, t2, t3⟩, t4, by omega, t6, fun b hb' e => ?_⟩
      rcases hg b hb' with e2 | e2
      · exact t7 b e2 e
      · omega
    rw [← List.cons_append] at ht'
    rcases List.mem_append.1 ht' with h' | h'
    · exact hold (h2.trs t' h')
    · rw [List.mem_singleton.1 h']
      refine hold ⟨⟨⟨[], ht, rfl, Nat.le_refl _⟩, by omega, by omega⟩, by omega, by omega, fun e => ?_, fun b hb' e => ?_⟩
      · have := h.blk.lt; omega
      · have := (h.own.lt b hb').2; omega
  · rw [← List.cons_append, List.pairwise_append]
    refine ⟨h.dis, List.pairwise_singleton _ _, fun a ha b hb' => ?_⟩
    rw [List.mem_singleton.1 hb', hbase]
    exact (h.trs a ha).2.2.1
theorem tp_at {t0 : TrP} {ts : List TrP} (i : Nat) (hi : i ≤ ts.length) : ∃ t, (t0 :: ts)[i]? = some t ∧ (t0 :: ts).getD i t0 = t ∧ t ∈ t0 :: ts := by
  have h : i < (t0 :: ts).length := by rw [List.length_cons]; omega
  exact ⟨(t0 :: ts)[i], List.getElem?_eq_getElem h, by rw [List.getD_eq_getElem?_getD, List.getElem?_eq_getElem h]; rfl, List.getElem_mem h⟩
/-- All views are there: it is a gossip (of an empty graph yet). -/
theorem gos (h : N1 w wr gb ops t0 ts vv) (h1 : 1 ≤ ts.length) (h8 : ts.length ≤ 8) (hok : (gcheck ops).2 = 0) (M : Nat) :
    ∃ vb vc, vv = .slice (some ⟨vb, 0, none⟩) ts.length vc ∧ Gos wr w.heap.size wr.heap.size (fun _ => False) gb ⟨.slice none 0 0, [], wr.heap.size, wr.heap.size, fun i => (t0 :: ts).getD i t0, vb, vc⟩ ops ⟨ts.length, fun _ _ => 0, fun _ => []⟩ 0 M := by
  rcases h.own.form with ⟨_, e⟩ | ⟨vb, vc, cells, e1, e2, e3, e4, e5, e6, e7, e8⟩
  · rw [List.map_eq_nil_iff] at e; rw [e] at h1; simp at h1
  rw [List.length_map] at e1 e3
  refine ⟨vb, vc, e1, ?_⟩
  subst e1
  have hgl := h.blk.lt
  have hbs := h.bel.size
  refine ⟨h1, h8, ⟨noWay, h.blk, rfl, fun i v hv => ?_, fun i j v u g _ hv _ hg => ?_⟩, ⟨cells, e2, e3, e4, fun j hj => ?_⟩, ⟨wr, [], OpsR.nil _ _, rfl, Nat.le_refl _, Below.refl _ _⟩, fun i hi => ?_, fun i j hij hj => ?_, fun i hi => ?_, fun i hi => ?_, ⟨fun e => absurd e.1 (by show ¬ wr.heap.size ≤ gb; omega), fun e => absurd e.1 (by show ¬ wr.heap.size ≤ vb; omega), by show gb ≠ vb; omega⟩, fun i hi => ?_, fun i hi => ?_, ⟨⟨h.g1, hgl⟩, ⟨by show _ ≤ vb; have := h.g1; omega, e7⟩, hbs, Nat.le_refl _⟩, fun k hk => hk.elim, Nat.le_refl _, hok⟩
  · have : v = .slice none 0 0 := by
      have hm := List.mem_of_getElem? hv
      exact (List.mem_replicate.1 hm).2
    subst this
    exact WayV.nil _ _ _ _
  · have : v = .slice none 0 0 := (List.mem_replicate.1 (List.mem_of_getElem? hv)).2
    subst this
    simp [Value.ownBlock] at hg
  · show cells[j]? = some (.pointer (some ⟨((t0 :: ts).getD (j + 1) t0).tb, 0, none⟩))
    have hj' : j < ts.length := hj
    have h9 := congrArg (fun l => l[j]?) e8
    simp only [List.length_map, Nat.mul_one] at h9
    rw [List.getElem?_take, if_pos hj'] at h9
    have h10 : ((ts.map (·.tb)).flatMap encPt)[j]? = some (.pointer (some ⟨ts[j].tb, 0, none⟩)) := by
      have := flat_at encPt_len (ts.map (·.tb)) j 0 (by simpa using hj') (by omega)
      simp only [Nat.mul_one, Nat.add_zero] at this
      rw [this]
      simp [encPt]
    rw [h10] at h9
    rw [List.getD_cons_succ, List.getD_eq_getElem?_getD, List.getElem?_eq_getElem hj']
    simpa using h9
  · obtain ⟨t, _, ht, hm⟩ := tp_at (t0 := t0) (ts := ts) i hi
    show TrI wr ((t0 :: ts).getD i t0) ops (fun _ => 0) 0
    rw [ht]
    exact (h.trs t hm).1
  · show ((t0 :: ts).getD i t0).U ≤ ((t0 :: ts).getD j t0).base
    have hj' : j < (t0 :: ts).length := by rw [List.length_cons]; exact Nat.lt_succ_of_le hj
    have := List.pairwise_iff_getElem.1 h.dis i j (by omega) hj' hij
    rw [List.getD_eq_getElem?_getD, List.getElem?_eq_getElem (show i < (t0 :: ts).length by omega), List.getD_eq_getElem?_getD, List.getElem?_eq_getElem hj']
    exact this
  · obtain ⟨t, _, ht, hm⟩ := tp_at (t0 := t0) (ts := ts) i hi
    show ¬ (((t0 :: ts).getD i t0).base ≤ gb ∧ _)
    dsimp only
    rw [ht]
    exact (h.trs t hm).2.2.2.1
  · obtain ⟨t, _, ht, hm⟩ := tp_at (t0 := t0) (ts := ts) i hi
    dsimp only
    rw [ht]
    exact (h.trs t hm).2.2.2.2 vb rfl
  · obtain ⟨t, _, ht, hm⟩ := tp_at (t0 := t0) (ts := ts) i hi
    dsimp only
    rw [ht]
    exact (h.trs t hm).2.2.1
  · obtain ⟨t, _, ht, hm⟩ := tp_at (t0 := t0) (ts := ts) i hi
    dsimp only
    rw [ht]
    exact ⟨(h.trs t hm).2.1, (h.trs t hm).2.2.1⟩
end N1
theorem Gos.congrC {w : World} {A U gb N M n : Nat} {X : Nat → Prop} {p : GP} {ops : List TOp} {c c' : Nat → CF} {wy : Nat → List (List TCount)} (h : Gos w A U X gb p ops ⟨n, c, wy⟩ N M) (hc : ∀ i, i ≤ n → c i = c' i) : Gos w A U X gb p ops ⟨n, c', wy⟩ N M :=
  ⟨h.n1, h.n8, h.blk, h.vws, h.gr, fun i hi => by
    have := h.trs i hi
    show TrI w (p.tp i) ops (c' i) N
    rw [← hc i hi]
    exact this, h.dis, h.dg, h.dv, h.dgr, h.dtr, h.inT, h.inG, h.xU, h.uw, h.ok⟩
/-- The graph's clone grows. -/
theorem Gos.setGr {w w3 : World} {A U gb N M : Nat} {p : GP} {ops : List TOp} {m : GM} (h : Gos w A U (fun _ => False) gb p ops m N M) (hgB : gb < p.gB ∧ p.vb < p.gB) {S : Nat → Prop} (hc : Chg S w w3) (hS : ∀ k, S k → p.gB ≤ k) {v : Value} {ps : List POp} {xs : List TOp} (ho : OpsR p.gB w3 v ps) (hps : ps.map (·.x) = xs) :
    Gos (w3.setCell ⟨gb, 0, none⟩ v) A (w3.setCell ⟨gb, 0, none⟩ v).heap.size (fun _ => False) gb ⟨v, xs, p.gB, (w3.setCell ⟨gb, 0, none⟩ v).heap.size, p.tp, p.vb, p.vc⟩ ops m N M ∧ OpsR p.gB (w3.setCell ⟨gb, 0, none⟩ v) v ps := by
  have hc34 : Chg (fun k => k = gb) w3 (w3.setCell ⟨gb, 0, none⟩ v) := (Chg.refl (fun k => k = gb) w3).setCell ⟨gb, 0, none⟩ v (fun _ => rfl)
  have hs := hc.size
  have hs4 := hc34.size
  obtain ⟨ws, b1, b2⟩ := h.blk
  obtain ⟨cs2, v1, v2⟩ := h.vws
  obtain ⟨g1, g2, g3, g4⟩ := h.inG
  have huw := h.uw
  have ho4 := ho.chg hc34 (fun b hb e => by omega)
  have hb3 := b1.chg hc (fun e => by have := hS _ e; omega)
  have hb4 := hb3.set 0 v
  have hcells : (gcells p m.n ws).setIfInBounds 0 v = gcells ⟨v, xs, p.gB, (w3.setCell ⟨gb, 0, none⟩ v).heap.size, p.tp, p.vb, p.vc⟩ m.n ws := by
    unfold gcells
    rw [List.setIfInBounds_toArray]
    rfl
  rw [hcells] at hb4
  refine ⟨⟨h.n1, h.n8, ⟨ws, hb4, b2.len, fun i u hu => ?_, b2.ne⟩, ⟨cs2, (v1.chg hc (fun e => by have := hS _ e; omega)).chg hc34 (fun e => h.dgr.2.2 e.symm), v2⟩, ⟨_, ps, ho4, hps, Nat.le_refl _, Below.refl _ _⟩, fun i hi => ?_, h.dis, h.dg, h.dv, ⟨fun e => absurd e.1 (by show ¬ p.gB ≤ gb; omega), fun e => absurd e.1 (by show ¬ p.gB ≤ p.vb; omega), h.dgr.2.2⟩, h.dtr, fun i hi => ⟨(h.inT i hi).1, by have := (h.inT i hi).2; show (p.tp i).U ≤ _; omega⟩, ⟨⟨g1.1, by omega⟩, ⟨g2.1, by show p.vb < _; omega⟩, g3, Nat.le_refl _⟩, fun k hk => hk.elim, Nat.le_refl _, h.ok⟩, ho4⟩
  · obtain ⟨hv0, ps2, o1, o2, o3⟩ := b2.at' i u hu
    have hu0 : ∀ b, u.ownBlock ≠ some b := fun b hb => hv0 b hb
    refine ⟨hv0, ps2, ?_, o2, fun q hq => ?_⟩
    · rcases o1 with o1 | ⟨g, k, cap, cells, e, _⟩
      · exact .inl o1
      · exact absurd (by rw [e]; rfl) (hu0 g)
    · have h3 := o3 q hq
      rcases o1 with ⟨_, o1⟩ | ⟨g, k, cap, cells, e, _⟩
      · rw [List.map_eq_nil_iff] at o1; rw [o1] at hq; cases hq
      · exact absurd (by rw [e]; rfl) (hu0 g)
  · obtain ⟨u1, u2, u3⟩ := h.trs i hi
    have hd := h.dtr i hi
    exact ⟨(u1.chgR hc (fun k hk e => by have := hS k hk; omega) u2 u3).chgR hc34 (fun k hk e => h.dg i hi (by rw [← hk]; exact e)) u2 u3, u2, u3⟩
end Go.Proofs.Ytjmbafcpbagpdaa
