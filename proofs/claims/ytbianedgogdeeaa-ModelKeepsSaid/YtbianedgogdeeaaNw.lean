/- Model: rows of slices; any operator of the document's Run. -/
import Derived.Test.YtbianedgogdeeaaNs
namespace Go.Proofs.Ytbianedgogdeeaa
open Go.RowKit Go.Maps Fold Go.Lib
attribute [local go_sem] Oper.semAt_some
set_option linter.unusedVariables false
set_option linter.unusedSimpArgs false

abbrev SlV := Option Addr × Nat × Nat
abbrev SlV.val (x : SlV) : Value := .slice x.1 x.2.1 x.2.2
def encS3 (x : SlV) : List Value := [x.val]
theorem encS3_len (x : SlV) : (encS3 x).length = 1 := rfl
theorem encS3_one (x : SlV) : ∀ u ∈ encS3 x, u.oneCell' = true := fun u h => by
  rw [List.mem_singleton.1 h]
  rfl
/-- A row of slices of pairs: the row is the call's own from rb on, the lists from eb on. -/
def RowL (w : World) (rb eb : Nat) (v : Value) (F : List PRS) : Prop :=
  ∃ xs : List SlV, OwnL encS3 w rb 29 1 v xs ∧ xs.length = F.length ∧ ∀ j (hj : j < F.length), ∃ x, xs[j]? = some x ∧ OwnR w eb (SlV.val x) F[j]
theorem RowL.nil (w : World) (rb eb : Nat) : RowL w rb eb (.slice none 0 0) [] := ⟨[], OwnL.nil _ _ _ _ _, rfl, fun j hj => absurd hj (Nat.not_lt_zero _)⟩
theorem RowL.below {w w' : World} {rb eb : Nat} {v : Value} {F : List PRS} (h : RowL w rb eb v F) (hb : Below w.heap.size w w') : RowL w' rb eb v F := by
  obtain ⟨xs, h1, h2, h3⟩ := h
  exact ⟨xs, OwnL.below h1 hb (Nat.le_refl _), h2, fun j hj => by
    obtain ⟨x, h4, h5⟩ := h3 j hj
    exact ⟨x, h4, OwnL.below h5 hb (Nat.le_refl _)⟩⟩
theorem RowL.lt {w : World} {rb eb : Nat} {v : Value} {F : List PRS} (h : RowL w rb eb v F) : ∀ g, v.ownBlock = some g → rb ≤ g ∧ g < w.heap.size := by
  obtain ⟨xs, h1, _⟩ := h
  exact OwnL.lt h1
theorem els_chg {w w' : World} {eb : Nat} {F : List PRS} {xs : List SlV} {S : Nat → Prop} (h : ∀ j (hj : j < F.length), ∃ x, xs[j]? = some x ∧ OwnR w eb (SlV.val x) F[j]) (hc : Chg S w w') (hS : ∀ k, S k → ∃ cs T, Blk w k cs T ∧ 53 ≠ T) : ∀ j (hj : j < F.length), ∃ x, xs[j]? = some x ∧ OwnR w' eb (SlV.val x) F[j] := fun j hj => by
  obtain ⟨x, h4, h5⟩ := h j hj
  exact ⟨x, h4, OwnL.chg h5 hc (fun g e s => by
    obtain ⟨cs, T, hb, hT⟩ := hS g s
    exact OwnL.ne_blk h5 hb hT e)⟩
theorem RowL.chg {w w' : World} {rb eb : Nat} {v : Value} {F : List PRS} {S : Nat → Prop} (h : RowL w rb eb v F) (hc : Chg S w w') (hS : ∀ k, S k → ∃ cs T, Blk w k cs T ∧ 53 ≠ T) (hv : ∀ g, v.ownBlock = some g → ¬ S g) : RowL w' rb eb v F := by
  obtain ⟨xs, h1, h2, h3⟩ := h
  exact ⟨xs, OwnL.chg h1 hc hv, h2, els_chg h3 hc hS⟩
theorem own_ty {α : Type} {enc : α → List Value} {size base : Nat} {e : TypeId} {w : World} {v : Value} {xs : List α} (h : OwnL enc w base e size v xs) : ∀ g, v.ownBlock = some g → ∃ cs, Blk w g cs e := fun g hg => by
  rcases h.form with ⟨rfl, _⟩ | ⟨g', cap, cells, rfl, h2, _⟩
  · cases hg
  · simp only [Value.ownBlock, Option.some.injEq] at hg
    subst hg
    exact ⟨cells, h2⟩
/-- One more list. -/
theorem RowL.snoc {w w7 : World} {rb eb : Nat} {v v7 : Value} {F : List PRS} {xs : List SlV} {x : SlV} {l : PRS} (h1 : OwnL encS3 w rb 29 1 v xs) (h2 : xs.length = F.length) (h3 : ∀ j (hj : j < F.length), ∃ x, xs[j]? = some x ∧ OwnR w eb (SlV.val x) F[j])
    (hx : OwnR w eb (SlV.val x) l) (hown : OwnL encS3 w7 rb 29 1 v7 (xs ++ [x])) (hgr : Grew w v w7 v7) : RowL w7 rb eb v7 (F ++ [l]) := by
  have hS : ∀ k, v.ownBlock = some k → ∃ cs T, Blk w k cs T ∧ 53 ≠ T := fun k hk => by
    obtain ⟨cs, hb⟩ := own_ty h1 k hk
    exact ⟨cs, _, hb, by decide⟩
  have hc := Chg.of_grown hgr.grown
  refine ⟨xs ++ [x], hown, by rw [List.length_append, List.length_append, h2]; rfl, fun j hj => ?_⟩
  rw [List.length_append, List.length_singleton] at hj
  by_cases hjl : j < F.length
  · obtain ⟨y, h4, h5⟩ := els_chg h3 hc hS j hjl
    exact ⟨y, by rw [List.getElem?_append_left (by omega)]; exact h4, by rw [List.getElem_append_left hjl]; exact h5⟩
  · obtain rfl : j = F.length := by omega
    refine ⟨x, by rw [List.getElem?_append_right (by omega), h2, Nat.sub_self]; rfl, ?_⟩
    rw [List.getElem_append_right (Nat.le_refl _)]
    simp only [Nat.sub_self, List.getElem_cons_zero]
    exact OwnL.chg hx hc (fun g e s => by
      obtain ⟨cs, T, hb, hT⟩ := hS g s
      exact OwnL.ne_blk hx hb hT e)
theorem RowL.sta {w : World} {rb eb : Nat} {v : Value} {F : List PRS} (h : RowL w rb eb v F) : ∃ so cap, v = .slice so F.length cap ∧ StA w w.heap.size so cap F := by
  obtain ⟨xs, h1, h2, h3⟩ := h
  rcases h1.form with ⟨rfl, rfl⟩ | ⟨g, cap, cells, rfl, hb, hl, hm, hcs, _, hlt, htk⟩
  · have : F = [] := List.eq_nil_of_length_eq_zero (by rw [← h2]; rfl)
    subst this
    exact ⟨none, 0, rfl, SlA.nil _ _ _ _⟩
  · refine ⟨_, cap, by rw [h2], SlA.of_blk hb hlt (by rw [← h2]; exact hl) hm (fun i hi => ?_)⟩
    obtain ⟨x, hx, ho⟩ := h3 i hi
    obtain ⟨ao, c, e, hP⟩ := OwnR.pra ho
    refine ⟨[x.val], rfl, fun j hj => ?_, ao, c, by rw [e], hP⟩
    obtain rfl : j = 0 := by omega
    have hix : i < xs.length := by rw [h2]; exact hi
    have h5 := flat_at encS3_len xs i 0 hix (by omega)
    rw [← htk, List.getElem?_take, if_pos (by omega)] at h5
    rw [List.getElem?_eq_getElem hix] at hx
    simp only [Option.some.injEq] at hx
    rw [hx] at h5
    simpa [encS3] using h5
/-- A list of the row. -/
theorem RowL.at {w : World} {rb eb : Nat} {v : Value} {F : List PRS} (h : RowL w rb eb v F) {j : Nat} (hj : j < F.length) : ∃ g cap x, v = .slice (some ⟨g, 0, none⟩) F.length cap ∧ g < w.heap.size ∧ w.cell? ⟨g, j, none⟩ = some (SlV.val x) ∧ OwnR w eb (SlV.val x) F[j] ∧ x.2.1 = F[j].length := by
  obtain ⟨xs, h1, h2, h3⟩ := h
  have hjx : j < xs.length := by rw [h2]; exact hj
  obtain ⟨x, hx, ho⟩ := h3 j hj
  rcases h1.form with ⟨rfl, rfl⟩ | ⟨g, cap, cells, rfl, hb, hl, hm, hcs, _, hlt, htk⟩
  · cases hjx
  · have hc := (own_cellX h1 encS3_len hjx).1 0 (by omega)
    rw [List.getElem?_eq_getElem hjx] at hx
    simp only [Option.some.injEq] at hx
    rw [hx] at hc
    obtain ⟨ao, c, e, _⟩ := OwnR.pra ho
    refine ⟨g, cap, x, by rw [h2], hlt, by simpa [encS3] using hc, ho, ?_⟩
    unfold SlV.val at e
    simp only [Value.slice.injEq] at e
    exact e.2.1

/-- The lists of an operator's inputs. -/
def insL (F : List PRS) (ins : List Int) : List PRS := ins.map (fun j => (F[j.toNat]?).getD [])
theorem insL_at (F : List PRS) (o : TOp) (k : Nat) : ((insL F o.fIn)[k]?).getD [] = inAt F o k := by
  unfold insL inAt
  rw [List.getElem?_map]
  cases o.fIn[k]? with
  | none => rfl
  | some j => simp
/-- Any operator. -/
theorem rop_any (o : TOp) (i n : Nat) (hok : okB o i n = true) (hn : o.fNum.toNat < 4294967296) (hl : o.fLim.toNat < 4294967296) (recs : List TRecord) (I : ST) (kept : PRS) (ao ia ko ra : Option Addr) (cap ic kcap rcap B : Nat) (w : World) (hB : B ≤ w.heap.size) (hI : StA w B ia ic I) (hIl : I.length = o.fIn.length) (hIok : ∀ l ∈ I, okL l ∧ l.length ≤ 4096)
    (hK : PrA B w ko kcap kept) (hr : SlA B 5 (RRecord B) w ra rcap recs) (hz : recs.length ≤ 512) (hokk : okL kept) (hs : Srt kept) (hzk : kept.length ≤ 5864062014805) :
    Calls Try.prog 37 #[opAgg o ao cap, .slice ia I.length ic, .slice ko kept.length kcap, .slice ra recs.length rcap] w (ROPost (opOut o ((I[0]?).getD []) ((I[1]?).getD []) kept recs) (opKeep o ((I[0]?).getD []) kept) w) := by
  unfold okB at hok
  simp only [Bool.and_eq_true, decide_eq_true_eq] at hok
  obtain ⟨⟨⟨hform, hlen⟩, _⟩, hins⟩ := hok
  have hin : ∀ k, k < I.length → ∃ a, I[k]? = some a ∧ (I[k]?).getD [] = a ∧ okL a ∧ a.length ≤ 4096 := fun k hk => ⟨I[k], List.getElem?_eq_getElem hk, by rw [List.getElem?_eq_getElem hk]; rfl, (hIok _ (List.getElem_mem hk)).1, (hIok _ (List.getElem_mem hk)).2⟩
  rw [← hIl] at hlen
  unfold wantN at hlen
  unfold formB at hform
  by_cases k1 : o.fKind = 1
  · rw [if_pos k1] at hform
    simp only [decide_eq_true_eq] at hform
    exact rop_src o k1 recs _ _ kept ao ia ko ra cap ic _ kcap _ rcap B w hB hr (by omega) hz
  rw [if_neg k1] at hlen hform
  by_cases k56 : o.fKind = 5 ∨ o.fKind = 6
  · rw [if_pos k56] at hlen
    obtain ⟨a, ha, hae, hoka, hza⟩ := hin 0 (by omega)
    obtain ⟨b, hb, hbe, hokb, hzb⟩ := hin 1 (by omega)
    rw [hae, hbe]
    rcases k56 with k5 | k6
    · rw [if_neg (by omega), if_neg (by omega), if_pos (.inr k5)] at hform
      simp only [decide_eq_true_eq] at hform
      exact rop_join o k5 recs I a b kept ao ia ko ra cap ic kcap _ rcap _ B w hB hI ha hb hform.1 hform.2.1 hoka hokb (by omega) (by omega)
    · exact rop_union o k6 recs I a b kept ao ia ko ra cap ic kcap _ rcap _ B w hB hI ha hb (by omega) (by omega)
  rw [if_neg k56] at hlen
  obtain ⟨a, ha, hae, hoka, hza⟩ := hin 0 (by omega)
  rw [hae]
  by_cases k4 : o.fKind = 4
  · rw [if_neg (by omega), if_neg (by omega), if_pos (.inl k4)] at hform
    simp only [decide_eq_true_eq] at hform
    exact rop_fold o k4 recs I a _ kept ao ia ko ra cap ic kcap rcap _ B w hB hI ha hK hform.1 hform.2.1 hoka hokk hs (by omega) hzk
  · have hrd : o.fRounds.toNat ≤ 1000 := by
      by_cases k2 : o.fKind = 2
      · rw [if_pos k2] at hform
        simp only [decide_eq_true_eq] at hform
        omega
      rw [if_neg k2] at hform
      by_cases k3 : o.fKind = 3
      · rw [if_pos k3] at hform
        simp only [decide_eq_true_eq] at hform
        omega
      rw [if_neg k3, if_neg (by omega)] at hform
      by_cases k68 : o.fKind = 6 ∨ o.fKind = 8
      · rw [if_pos k68] at hform
        simp only [decide_eq_true_eq] at hform
        omega
      rw [if_neg k68] at hform
      by_cases k7 : o.fKind = 7
      · rw [if_pos k7] at hform
        simp only [decide_eq_true_eq] at hform
        omega
      · rw [if_neg k7] at hform
        cases hform
    exact rop_each o o.fKind rfl k1 k4 (by omega) (by omega) recs I a _ kept ao ia ko ra cap ic kcap _ rcap _ B w hB hI ha hoka (by omega) hn hl hrd
end Go.Proofs.Ytbianedgogdeeaa

/- Model: what lies in memory while the document's Run walks; how it refuses. -/
namespace Go.Proofs.Ytbianedgogdeeaa
open Go.RowKit Go.Maps Fold Go.Lib
attribute [local go_sem] Oper.semAt_some
set_option linter.unusedVariables false
set_option linter.unusedSimpArgs false

theorem blk_ty {w : World} {b : Nat} {cs ds : Array Value} {T U : TypeId} (h : Blk w b cs T) (k : Blk w b ds U) : T = U := by
  unfold Blk at h k
  rw [h] at k
  simp only [Option.some.injEq, Obj.cells.injEq] at k
  exact k.2.1
structure RMem (w wr : World) (nb gb sb cb : Nat) (gv sv v fv bv : Value) (F N : List PRS) : Prop where
  bel : Below w.heap.size w wr
  row : RowL wr w.heap.size w.heap.size v F
  fol : RowL wr w.heap.size w.heap.size fv N
  box : Blk wr nb #[bv] 27
  ap : ∀ g, v.ownBlock = some g → fv.ownBlock ≠ some g
  gB : Blk wr gb #[gv] 24
  sB : Blk wr sb #[sv] 27
  cB : Blk wr cb #[.slice none 0 0] 27
namespace RMem
variable {w wr w' : World} {nb gb sb cb : Nat} {gv sv v fv bv : Value} {F N : List PRS}
theorem below (h : RMem w wr nb gb sb cb gv sv v fv bv F N) (hb : Below wr.heap.size wr w') : RMem w w' nb gb sb cb gv sv v fv bv F N :=
  ⟨h.bel.trans (hb.mono h.bel.size), h.row.below hb, h.fol.below hb, h.box.below hb h.box.lt, h.ap, h.gB.below hb h.gB.lt, h.sB.below hb h.sB.lt, h.cB.below hb h.cB.lt⟩
theorem row_ty (h : RowL wr w.heap.size w.heap.size v F) : ∀ k, v.ownBlock = some k → ∃ cs, Blk wr k cs 29 := fun k hk => by
  obtain ⟨xs, h1, _⟩ := h
  exact own_ty h1 k hk
theorem blk_keep {b : Nat} {cs : Array Value} {T : TypeId} {u : Value} {X : List PRS} (h : Blk wr b cs T) (hT : 29 ≠ T) (hr : RowL wr w.heap.size w.heap.size u X) (hc : Chg (fun k => u.ownBlock = some k) wr w') : Blk w' b cs T :=
  h.chg hc (fun s => by
    obtain ⟨ds, hd⟩ := row_ty hr b s
    exact hT (blk_ty hd h))
theorem grown_below (h : RowL wr w.heap.size w.heap.size v F) (hb : Below w.heap.size w wr) {v' : Value} (hg : Grew wr v w' v') : Below w.heap.size w w' :=
  hb.grown hg.grown hb.size (fun g e => (h.lt g e).1)
theorem place_ap {u v' : Value} {X : List PRS} (h : RowL wr w.heap.size w.heap.size u X) (hap : ∀ g, v.ownBlock = some g → u.ownBlock ≠ some g) (hg : Grew wr v w' v') : ∀ g, v'.ownBlock = some g → u.ownBlock ≠ some g := fun g e e2 => by
  rcases hg.place with hp | ⟨q, hq, hql⟩
  · exact hap g (by rw [← hp]; exact e) e2
  · rw [hq] at e
    simp only [Option.some.injEq] at e
    have := (h.lt g e2).2
    omega
theorem putRow (h : RMem w wr nb gb sb cb gv sv v fv bv F N) {v' : Value} {F' : List PRS} (hg : Grew wr v w' v') (hr : RowL w' w.heap.size w.heap.size v' F') : RMem w w' nb gb sb cb gv sv v' fv bv F' N := by
  have hc := Chg.of_grown hg.grown
  refine ⟨grown_below h.row h.bel hg, hr, h.fol.chg hc (fun k hk => ?_) (fun g e s => h.ap g s e), blk_keep h.box (by decide) h.row hc, place_ap h.fol h.ap hg, blk_keep h.gB (by decide) h.row hc, blk_keep h.sB (by decide) h.row hc, blk_keep h.cB (by decide) h.row hc⟩
  obtain ⟨cs, hb⟩ := row_ty h.row k hk
  exact ⟨cs, _, hb, by decide⟩
theorem putFol (h : RMem w wr nb gb sb cb gv sv v fv bv F N) {v' : Value} {N' : List PRS} (hg : Grew wr fv w' v') (hr : RowL w' w.heap.size w.heap.size v' N') : RMem w w' nb gb sb cb gv sv v v' bv F N' := by
  have hc := Chg.of_grown hg.grown
  refine ⟨grown_below h.fol h.bel hg, h.row.chg hc (fun k hk => ?_) (fun g e s => h.ap g e s), hr, blk_keep h.box (by decide) h.fol hc, fun g e e2 => place_ap h.row (fun g e e3 => h.ap g e3 e) hg g e2 e, blk_keep h.gB (by decide) h.fol hc, blk_keep h.sB (by decide) h.fol hc, blk_keep h.cB (by decide) h.fol hc⟩
  obtain ⟨cs, hb⟩ := row_ty h.fol k hk
  exact ⟨cs, _, hb, by decide⟩
theorem setBox (h : RMem w wr nb gb sb cb gv sv v fv bv F N) (hnb : w.heap.size ≤ nb) (h1 : sb ≠ nb) (h2 : cb ≠ nb) (h3 : gb ≠ nb) (u : Value) : RMem w (wr.setCell ⟨nb, 0, none⟩ u) nb gb sb cb gv sv v fv u F N := by
  have hc : Chg (fun k => k = nb) wr (wr.setCell ⟨nb, 0, none⟩ u) := (Chg.refl _ _).setCell _ _ (fun _ => rfl)
  have hS : ∀ k, k = nb → ∃ cs T, Blk wr k cs T ∧ 53 ≠ T := fun k hk => by subst hk; exact ⟨_, _, h.box, by decide⟩
  have hne : ∀ {u : Value} {X : List PRS}, RowL wr w.heap.size w.heap.size u X → ∀ g, u.ownBlock = some g → ¬ g = nb := fun {u X} hr g e e2 => by
    subst e2
    obtain ⟨cs, hb⟩ := row_ty hr g e
    have := blk_ty hb h.box
    exact absurd this (by decide)
  exact ⟨h.bel.setCell hnb _, h.row.chg hc hS (hne h.row), h.fol.chg hc hS (hne h.fol), h.box.set 0 u, h.ap, h.gB.set_other h3 _, h.sB.set_other h1 _, h.cB.set_other h2 _⟩
end RMem
/-- What Run answers. -/
def RRPost (w : World) (R : PRS × ST × Nat) (e : Ending) (w' : World) : Prop :=
  ∃ v sa sc, e = .returned (.tuple #[v, .agg #[.slice sa R.2.1.length sc], .int .i64 (R.2.2 : Nat)]) ∧ OwnR w' w.heap.size v R.1 ∧ StA w' w'.heap.size sa sc R.2.1 ∧ Below w.heap.size w w'
theorem RRPost.bad {w w' : World} {k : Nat} (hb : Below w.heap.size w w') : RRPost w ([], [], k) (.returned (.tuple #[.slice none 0 0, .agg #[.slice none 0 0], .int .i64 (k : Nat)])) w' :=
  ⟨_, _, _, rfl, OwnL.nil _ _ _ _ _, SlA.nil _ _ _ _, hb⟩

set_option maxRecDepth 100000 in
set_option maxHeartbeats 4000000 in
theorem rrun_graph (ops : List TOp) (s : ST) (recs : List TRecord) (ga so ra : Option Addr) (gcap scap rcap B : Nat) (w : World) (hB : B ≤ w.heap.size) (hx : SlA B 7 (ROp B) w ga gcap ops) (hok : (gcheck ops).2 ≠ 0) :
    Calls Try.prog 11 #[.agg #[.slice ga ops.length gcap], .agg #[.slice so s.length scap], .slice ra recs.length rcap] w (RRPost w ([], [], 13)) := by
  have hck := fun W (hW : Below w.heap.size w W) => rcheck_all ops gcap ga W B (Nat.le_trans hB hW.size) (imp_ops hx (hW.mono hB))
  obtain ⟨n, hn⟩ : ∃ n, n = ops.length := ⟨_, rfl⟩
  obtain ⟨sl, hsl⟩ : ∃ sl, sl = s.length := ⟨_, rfl⟩
  obtain ⟨m, hm⟩ : ∃ m, m = recs.length := ⟨_, rfl⟩
  obtain ⟨ep, hep⟩ : ∃ ep, ep = (gcheck ops).1 := ⟨_, rfl⟩
  obtain ⟨ec, hec⟩ : ∃ ec, ec = (gcheck ops).2 := ⟨_, rfl⟩
  rw [← hec] at hok
  rw [← hep, ← hec, ← hn] at hck
  rw [← hn, ← hsl, ← hm]
  replace hn := Lib.hid hn
  replace hsl := Lib.hid hsl
  replace hm := Lib.hid hm
  replace hep := Lib.hid hep
  replace hec := Lib.hid hec
  go_enter Try.func11, Try.ntmps11
  go_upto_region 1 with fail
  refine Code.wp_world ?_
  intro w1 hw1
  have hb1 : Below w.heap.size w w1 := by rw [hw1]; exact (by repeat (first | exact Below.refl _ _ | refine below_drewN ?_ _ | refine Below.drew ?_ | (refine Below.alloc ?_ (by simp; try omega) _)))
  have hG1 : Blk w1 w.heap.size #[.slice ga n gcap] 24 := by rw [hw1]; exact ((Blk.new _ _ _).alloc _).alloc _
  have hS1 : Blk w1 (w.heap.size + 1) #[.slice so sl scap] 27 := by
    rw [hw1]
    have := (Blk.new (w.alloc (.cells #[.slice ga n gcap] 24)) #[.slice so sl scap] 27).alloc (.cells #[.slice none 0 0] 27)
    rwa [World.size_alloc] at this
  have hC1 : Blk w1 (w.heap.size + 2) #[.slice none 0 0] 27 := by
    rw [hw1]
    have := Blk.new ((w.alloc (.cells #[.slice ga n gcap] 24)).alloc (.cells #[.slice so sl scap] 27)) #[.slice none 0 0] 27
    rwa [World.size_alloc, World.size_alloc] at this
  obtain ⟨cb, hcb⟩ : ∃ cb, cb = w.heap.size + 2 := ⟨_, rfl⟩
  obtain ⟨sb, hsb⟩ : ∃ sb, sb = w.heap.size + 1 := ⟨_, rfl⟩
  obtain ⟨gb, hgb⟩ : ∃ gb, gb = w.heap.size := ⟨_, rfl⟩
  have hcbl : w.heap.size ≤ cb := by omega
  have hgbl : w.heap.size ≤ gb := by omega
  have hsbl : w.heap.size ≤ sb := by omega
  have e2 : w.heap.size + 1 + 1 = cb := by omega
  rw [← hcb] at hC1
  rw [← hsb] at hS1
  rw [← hgb] at hG1
  try rw [e2]
  try rw [← hcb]
  rw [← hsb]
  rw [← hgb]
  have hne : gb ≠ cb ∧ sb ≠ cb ∧ gb ≠ sb := by omega
  replace hcb := Lib.hid hcb
  replace hsb := Lib.hid hsb
  replace hgb := Lib.hid hgb
  clear hw1 e2
  have g1 := hG1.cellAt (i := 0) (v := .slice ga n gcap) rfl
  have hck1 := hck w1 hb1
  replace hck1 := Lib.hid hck1
  clear hck
  go_wp2_with fail
  refine hck1.out.mono ?_
  rintro e w2 ⟨rfl, hb2⟩
  have hC2 := hC1.below hb2 hC1.lt
  have hG2 := hG1.below hb2 hG1.lt
  have hS2 := hS1.below hb2 hS1.lt
  have hb12 := hb1.trans (hb2.mono hb1.size)
  clear hck1 hb2 g1 hG1 hS1 hC1 hb1
  have c0 := hC2.cellAt (i := 0) (v := .slice none 0 0) rfl
  have cf := hC2.frozen 0
  have d0 : ((ec : Int) != 0) = true := by simpa using hok
  dsimp only
  go_wp2_with fail
  refine bodyPost_ret (results_tct rfl _ _ cb _ rfl (run_loadVar_row _ cb 27 _ _ (0, 0) _ (hC2.set 0 _) Try.underlying27 rfl (by kernel_rfl))) rfl ?_
  exact RRPost.bad (k := 13) (hb12.setCell (by simp; omega) _)

set_option maxRecDepth 100000 in
set_option maxHeartbeats 4000000 in
theorem rrun_form (ops : List TOp) (s : ST) (recs : List TRecord) (ga so ra : Option Addr) (gcap scap rcap B : Nat) (w : World) (hB : B ≤ w.heap.size) (hx : SlA B 7 (ROp B) w ga gcap ops) (hs : StA w B so scap s) (hok : (gcheck ops).2 = 0) (hgd : goodS ops s = false) :
    Calls Try.prog 11 #[.agg #[.slice ga ops.length gcap], .agg #[.slice so s.length scap], .slice ra recs.length rcap] w (RRPost w ([], [], 3)) := by
  have hck := fun W (hW : Below w.heap.size w W) => rcheck_all ops gcap ga W B (Nat.le_trans hB hW.size) (imp_ops hx (hW.mono hB))
  have hgo := fun W (hW : Below w.heap.size w W) => rgood_any ops s ga so gcap scap B W (Nat.le_trans hB hW.size) (imp_ops hx (hW.mono hB)) (hs.imp' (hW.mono hB) (Nat.le_refl _))
  rw [hgd] at hgo
  obtain ⟨n, hn⟩ : ∃ n, n = ops.length := ⟨_, rfl⟩
  obtain ⟨sl, hsl⟩ : ∃ sl, sl = s.length := ⟨_, rfl⟩
  obtain ⟨m, hm⟩ : ∃ m, m = recs.length := ⟨_, rfl⟩
  obtain ⟨ep, hep⟩ : ∃ ep, ep = (gcheck ops).1 := ⟨_, rfl⟩
  obtain ⟨ec, hec⟩ : ∃ ec, ec = (gcheck ops).2 := ⟨_, rfl⟩
  rw [← hec] at hok
  rw [← hep, ← hec, ← hn] at hck
  rw [← hn, ← hsl, ← hm]
  replace hn := Lib.hid hn
  replace hsl := Lib.hid hsl
  replace hm := Lib.hid hm
  replace hep := Lib.hid hep
  replace hec := Lib.hid hec
  go_enter Try.func11, Try.ntmps11
  go_upto_region 1 with fail
  refine Code.wp_world ?_
  intro w1 hw1
  have hb1 : Below w.heap.size w w1 := by rw [hw1]; exact (by repeat (first | exact Below.refl _ _ | refine below_drewN ?_ _ | refine Below.drew ?_ | (refine Below.alloc ?_ (by simp; try omega) _)))
  have hG1 : Blk w1 w.heap.size #[.slice ga n gcap] 24 := by rw [hw1]; exact ((Blk.new _ _ _).alloc _).alloc _
  have hS1 : Blk w1 (w.heap.size + 1) #[.slice so sl scap] 27 := by
    rw [hw1]
    have := (Blk.new (w.alloc (.cells #[.slice ga n gcap] 24)) #[.slice so sl scap] 27).alloc (.cells #[.slice none 0 0] 27)
    rwa [World.size_alloc] at this
  have hC1 : Blk w1 (w.heap.size + 2) #[.slice none 0 0] 27 := by
    rw [hw1]
    have := Blk.new ((w.alloc (.cells #[.slice ga n gcap] 24)).alloc (.cells #[.slice so sl scap] 27)) #[.slice none 0 0] 27
    rwa [World.size_alloc, World.size_alloc] at this
  obtain ⟨cb, hcb⟩ : ∃ cb, cb = w.heap.size + 2 := ⟨_, rfl⟩
  obtain ⟨sb, hsb⟩ : ∃ sb, sb = w.heap.size + 1 := ⟨_, rfl⟩
  obtain ⟨gb, hgb⟩ : ∃ gb, gb = w.heap.size := ⟨_, rfl⟩
  have hcbl : w.heap.size ≤ cb := by omega
  have hgbl : w.heap.size ≤ gb := by omega
  have hsbl : w.heap.size ≤ sb := by omega
  have e2 : w.heap.size + 1 + 1 = cb := by omega
  rw [← hcb] at hC1
  rw [← hsb] at hS1
  rw [← hgb] at hG1
  try rw [e2]
  try rw [← hcb]
  rw [← hsb]
  rw [← hgb]
  have hne : gb ≠ cb ∧ sb ≠ cb ∧ gb ≠ sb := by omega
  replace hcb := Lib.hid hcb
  replace hsb := Lib.hid hsb
  replace hgb := Lib.hid hgb
  clear hw1 e2
  have g1 := hG1.cellAt (i := 0) (v := .slice ga n gcap) rfl
  have hck1 := hck w1 hb1
  replace hck1 := Lib.hid hck1
  clear hck
  rw [← hn.out, ← hsl.out] at hgo
  go_wp2_with fail
  refine hck1.out.mono ?_
  rintro e w2 ⟨rfl, hb2⟩
  have hC2 := hC1.below hb2 hC1.lt
  have hG2 := hG1.below hb2 hG1.lt
  have hS2 := hS1.below hb2 hS1.lt
  have hb12 := hb1.trans (hb2.mono hb1.size)
  clear hck1 hb2 g1 hG1 hS1 hC1 hb1
  have g2 := hG2.cellAt (i := 0) (v := .slice ga n gcap) rfl
  have s2 := hS2.cellAt (i := 0) (v := .slice so sl scap) rfl
  have hgo2 := hgo w2 hb12
  replace hgo2 := Lib.hid hgo2
  have d0 : ((ec : Int) != 0) = false := by simp [hok]
  replace hok := Lib.hid hok
  clear hgo
  dsimp only
  go_wp2_with fail
  refine hgo2.out.mono ?_
  rintro e w3 ⟨rfl, hb3⟩
  have hC3 := hC2.below hb3 hC2.lt
  have hb13 := hb12.trans (hb3.mono hb12.size)
  have c0 := hC3.cellAt (i := 0) (v := .slice none 0 0) rfl
  have cf := hC3.frozen 0
  clear hgo2 g2 s2 hb3
  dsimp only
  go_wp2_with fail
  refine bodyPost_ret (results_tct rfl _ _ cb _ rfl (run_loadVar_row _ cb 27 _ _ (0, 0) _ (hC3.set 0 _) Try.underlying27 rfl (by kernel_rfl))) rfl ?_
  exact RRPost.bad (k := 3) (hb13.setCell (by simp; omega) _)

set_option maxRecDepth 100000 in
set_option maxHeartbeats 4000000 in
theorem rrun_long (ops : List TOp) (s : ST) (recs : List TRecord) (ga so ra : Option Addr) (gcap scap rcap B : Nat) (w : World) (hB : B ≤ w.heap.size) (hx : SlA B 7 (ROp B) w ga gcap ops) (hs : StA w B so scap s) (hok : (gcheck ops).2 = 0) (hgd : goodS ops s = true) (hlong : 512 < recs.length) :
    Calls Try.prog 11 #[.agg #[.slice ga ops.length gcap], .agg #[.slice so s.length scap], .slice ra recs.length rcap] w (RRPost w ([], [], 2)) := by
  have hck := fun W (hW : Below w.heap.size w W) => rcheck_all ops gcap ga W B (Nat.le_trans hB hW.size) (imp_ops hx (hW.mono hB))
  have hgo := fun W (hW : Below w.heap.size w W) => rgood_any ops s ga so gcap scap B W (Nat.le_trans hB hW.size) (imp_ops hx (hW.mono hB)) (hs.imp' (hW.mono hB) (Nat.le_refl _))
  rw [hgd] at hgo
  obtain ⟨n, hn⟩ : ∃ n, n = ops.length := ⟨_, rfl⟩
  obtain ⟨sl, hsl⟩ : ∃ sl, sl = s.length := ⟨_, rfl⟩
  obtain ⟨m, hm⟩ : ∃ m, m = recs.length := ⟨_, rfl⟩
  obtain ⟨ep, hep⟩ : ∃ ep, ep = (gcheck ops).1 := ⟨_, rfl⟩
  obtain ⟨ec, hec⟩ : ∃ ec, ec = (gcheck ops).2 := ⟨_, rfl⟩
  rw [← hec] at hok
  rw [← hep, ← hec, ← hn] at hck
  rw [← hn, ← hsl, ← hm]
  replace hn := Lib.hid hn
  replace hsl := Lib.hid hsl
  replace hm := Lib.hid hm
  replace hep := Lib.hid hep
  replace hec := Lib.hid hec
  go_enter Try.func11, Try.ntmps11
  go_upto_region 1 with fail
  refine Code.wp_world ?_
  intro w1 hw1
  have hb1 : Below w.heap.size w w1 := by rw [hw1]; exact (by repeat (first | exact Below.refl _ _ | refine below_drewN ?_ _ | refine Below.drew ?_ | (refine Below.alloc ?_ (by simp; try omega) _)))
  have hG1 : Blk w1 w.heap.size #[.slice ga n gcap] 24 := by rw [hw1]; exact ((Blk.new _ _ _).alloc _).alloc _
  have hS1 : Blk w1 (w.heap.size + 1) #[.slice so sl scap] 27 := by
    rw [hw1]
    have := (Blk.new (w.alloc (.cells #[.slice ga n gcap] 24)) #[.slice so sl scap] 27).alloc (.cells #[.slice none 0 0] 27)
    rwa [World.size_alloc] at this
  have hC1 : Blk w1 (w.heap.size + 2) #[.slice none 0 0] 27 := by
    rw [hw1]
    have := Blk.new ((w.alloc (.cells #[.slice ga n gcap] 24)).alloc (.cells #[.slice so sl scap] 27)) #[.slice none 0 0] 27
    rwa [World.size_alloc, World.size_alloc] at this
  obtain ⟨cb, hcb⟩ : ∃ cb, cb = w.heap.size + 2 := ⟨_, rfl⟩
  obtain ⟨sb, hsb⟩ : ∃ sb, sb = w.heap.size + 1 := ⟨_, rfl⟩
  obtain ⟨gb, hgb⟩ : ∃ gb, gb = w.heap.size := ⟨_, rfl⟩
  have hcbl : w.heap.size ≤ cb := by omega
  have hgbl : w.heap.size ≤ gb := by omega
  have hsbl : w.heap.size ≤ sb := by omega
  have e2 : w.heap.size + 1 + 1 = cb := by omega
  rw [← hcb] at hC1
  rw [← hsb] at hS1
  rw [← hgb] at hG1
  try rw [e2]
  try rw [← hcb]
  rw [← hsb]
  rw [← hgb]
  have hne : gb ≠ cb ∧ sb ≠ cb ∧ gb ≠ sb := by omega
  replace hcb := Lib.hid hcb
  replace hsb := Lib.hid hsb
  replace hgb := Lib.hid hgb
  clear hw1 e2
  have g1 := hG1.cellAt (i := 0) (v := .slice ga n gcap) rfl
  have hck1 := hck w1 hb1
  replace hck1 := Lib.hid hck1
  clear hck
  rw [← hn.out, ← hsl.out] at hgo
  rw [← hm.out] at hlong
  go_wp2_with fail
  refine hck1.out.mono ?_
  rintro e w2 ⟨rfl, hb2⟩
  have hC2 := hC1.below hb2 hC1.lt
  have hG2 := hG1.below hb2 hG1.lt
  have hS2 := hS1.below hb2 hS1.lt
  have hb12 := hb1.trans (hb2.mono hb1.size)
  clear hck1 hb2 g1 hG1 hS1 hC1 hb1
  have g2 := hG2.cellAt (i := 0) (v := .slice ga n gcap) rfl
  have s2 := hS2.cellAt (i := 0) (v := .slice so sl scap) rfl
  have hgo2 := hgo w2 hb12
  replace hgo2 := Lib.hid hgo2
  have d0 : ((ec : Int) != 0) = false := by simp [hok]
  have d1 : decide ((512 : Int) < (m : Int)) = true := by simp; omega
  replace hok := Lib.hid hok
  clear hgo
  dsimp only
  go_wp2_with fail
  refine hgo2.out.mono ?_
  rintro e w3 ⟨rfl, hb3⟩
  have hC3 := hC2.below hb3 hC2.lt
  have hb13 := hb12.trans (hb3.mono hb12.size)
  have c0 := hC3.cellAt (i := 0) (v := .slice none 0 0) rfl
  have cf := hC3.frozen 0
  clear hgo2 g2 s2 hb3
  dsimp only
  go_wp2_with fail
  refine bodyPost_ret (results_tct rfl _ _ cb _ rfl (run_loadVar_row _ cb 27 _ _ (0, 0) _ (hC3.set 0 _) Try.underlying27 rfl (by kernel_rfl))) rfl ?_
  exact RRPost.bad (k := 2) (hb13.setCell (by simp; omega) _)
end Go.Proofs.Ytbianedgogdeeaa

/- Model: the document's Run. -/
namespace Go.Proofs.Ytbianedgogdeeaa
open Go.RowKit Go.Maps Fold Go.Lib
attribute [local go_sem] Oper.semAt_some
set_option linter.unusedVariables false
set_option linter.unusedSimpArgs false

/-- How far the plain law has come. -/
structure RLaw (s : ST) (recs : List TRecord) (ops : List TOp) (R : Option (List PRS × ST)) (i : Nat) (F f N : List PRS) : Prop where
  pl : PL F f
  ok : ∀ l ∈ F, okL l ∧ l.length ≤ 4096
  fl : F.length = i
  nl : N.length = i
  run : runF s recs (ops.drop i) f N = R
theorem RLaw.start (s : ST) (recs : List TRecord) (ops : List TOp) : RLaw s recs ops (runF s recs ops [] []) 0 [] [] [] := ⟨PL.refl _, fun l h => absurd h (by simp), rfl, rfl, rfl⟩
theorem RLaw.cons {s : ST} {recs : List TRecord} {ops : List TOp} {R : Option (List PRS × ST)} {i : Nat} {F f N : List PRS} (h : RLaw s recs ops R i F f N) {o : TOp} (ho : ops[i]? = some o) :
    (if 4096 < (opOut o (inAt f o 0) (inAt f o 1) (keptAt s i) recs).length then none else runF s recs (ops.drop (i + 1)) (f ++ [opOut o (inAt f o 0) (inAt f o 1) (keptAt s i) recs]) (N ++ [opKeep o (inAt f o 0) (keptAt s i)])) = R := by
  have hr := h.run
  obtain ⟨hi, he⟩ := List.getElem?_eq_some_iff.1 ho
  rw [List.drop_eq_getElem_cons hi, he] at hr
  unfold runF at hr
  rwa [show f.length = i by rw [← h.pl.1]; exact h.fl] at hr
theorem RLaw.long {s : ST} {recs : List TRecord} {ops : List TOp} {R : Option (List PRS × ST)} {i : Nat} {F f N : List PRS} (h : RLaw s recs ops R i F f N) {o : TOp} (ho : ops[i]? = some o) {l : PRS} (hp : l.Perm (opOut o (inAt F o 0) (inAt F o 1) (keptAt s i) recs)) (hl : 4096 < l.length) : R = none := by
  have hr := h.cons ho
  have hp2 := hp.trans (opOut_perm (inAt_perm h.pl o 0) (inAt_perm h.pl o 1) (.refl _))
  rw [if_pos (by rw [← hp2.length_eq]; exact hl)] at hr
  exact hr.symm
theorem RLaw.step {s : ST} {recs : List TRecord} {ops : List TOp} {R : Option (List PRS × ST)} {i : Nat} {F f N : List PRS} (h : RLaw s recs ops R i F f N) {o : TOp} (ho : ops[i]? = some o) (hs : Srt (keptAt s i)) {l : PRS} (hp : l.Perm (opOut o (inAt F o 0) (inAt F o 1) (keptAt s i) recs)) (hl : ¬ 4096 < l.length) (hok : okL l) :
    ∃ f', RLaw s recs ops R (i + 1) (F ++ [l]) f' (N ++ [opKeep o (inAt F o 0) (keptAt s i)]) := by
  have hr := h.cons ho
  have hp2 := hp.trans (opOut_perm (inAt_perm h.pl o 0) (inAt_perm h.pl o 1) (.refl _))
  rw [if_neg (by rw [← hp2.length_eq]; exact hl), ← opKeep_perm hs (inAt_perm h.pl o 0)] at hr
  refine ⟨_, h.pl.snoc hp2, fun x hx => ?_, by rw [List.length_append, h.fl]; rfl, by rw [List.length_append, h.nl]; rfl, hr⟩
  rcases List.mem_append.1 hx with hx | hx
  · exact h.ok x hx
  · rw [List.mem_singleton.1 hx]
    exact ⟨hok, by omega⟩
theorem insL_ok {F : List PRS} (h : ∀ l ∈ F, okL l ∧ l.length ≤ 4096) (ins : List Int) : ∀ l ∈ insL F ins, okL l ∧ l.length ≤ 4096 := fun l hl => by
  obtain ⟨j, _, rfl⟩ := List.mem_map.1 hl
  cases hg : F[j.toNat]? with
  | none => exact ⟨fun p hp => absurd hp (by simp), by simp⟩
  | some x => exact h x (List.mem_of_getElem? hg)
theorem kept_ok {s : ST} (hs : okS s) (i : Nat) : okL (keptAt s i) := fun p hp => by
  unfold keptAt at hp
  cases hg : s[i]? with
  | none => rw [hg] at hp; cases hp
  | some l => rw [hg] at hp; exact hs l (List.mem_of_getElem? hg) p hp
theorem kept_len {s : ST} (hs : ∀ l ∈ s, l.length ≤ 5864062014805) (i : Nat) : (keptAt s i).length ≤ 5864062014805 := by
  unfold keptAt
  cases hg : s[i]? with
  | none => simp
  | some l => exact hs l (List.mem_of_getElem? hg)

theorem RowL.set_state {w : World} {rb eb cb : Nat} {cs : Array Value} {v : Value} {F : List PRS} (h : RowL w rb eb v F) (hb : Blk w cb cs 27) (u : Value) : RowL (w.setCell ⟨cb, 0, none⟩ u) rb eb v F := by
  have hc : Chg (fun k => k = cb) w (w.setCell ⟨cb, 0, none⟩ u) := (Chg.refl _ _).setCell _ _ (fun _ => rfl)
  refine h.chg hc (fun k hk => by subst hk; exact ⟨_, _, hb, by decide⟩) (fun g e e2 => ?_)
  subst e2
  obtain ⟨xs, h1, _⟩ := h
  obtain ⟨ds, hd⟩ := own_ty h1 g e
  exact absurd (blk_ty hd hb) (by decide)
theorem ok_rounds {o : TOp} {i n : Nat} (h : okB o i n = true) : 0 ≤ o.fRounds := by
  unfold okB formB at h
  simp only [Bool.and_eq_true] at h
  have hf := h.1.1.1
  split at hf
  · simp only [decide_eq_true_eq] at hf; omega
  split at hf
  · simp only [decide_eq_true_eq] at hf; omega
  split at hf
  · simp only [decide_eq_true_eq] at hf; omega
  split at hf
  · simp only [decide_eq_true_eq] at hf; omega
  split at hf
  · simp only [decide_eq_true_eq] at hf; omega
  split at hf
  · simp only [decide_eq_true_eq] at hf; omega
  · cases hf

set_option maxRecDepth 100000 in
set_option maxHeartbeats 4000000 in
theorem rrun_ok (ops : List TOp) (s : ST) (recs : List TRecord) (ga so ra : Option Addr) (gcap scap rcap B : Nat) (w : World) (hB : B ≤ w.heap.size) (hx : SlA B 7 (ROp B) w ga gcap ops) (hs : StA w B so scap s) (hr : SlA B 5 (RRecord B) w ra rcap recs) (hok : (gcheck ops).2 = 0) (hgd : goodS ops s = true) (hshort : recs.length ≤ 512)
    (hsok : okS s) (hsz : ∀ l ∈ s, l.length ≤ 5864062014805) :
    Calls Try.prog 11 #[.agg #[.slice ga ops.length gcap], .agg #[.slice so s.length scap], .slice ra recs.length rcap] w (RRPost w (match runF s recs ops [] [] with | none => ([], [], 2) | some (f, n) => (sortP (f.getLast?.getD []), n, 0))) := by
  have hck := fun W (hW : Below w.heap.size w W) => rcheck_all ops gcap ga W B (Nat.le_trans hB hW.size) (imp_ops hx (hW.mono hB))
  have hgo := fun W (hW : Below w.heap.size w W) => rgood_any ops s ga so gcap scap B W (Nat.le_trans hB hW.size) (imp_ops hx (hW.mono hB)) (hs.imp' (hW.mono hB) (Nat.le_refl _))
  rw [hgd] at hgo
  obtain ⟨⟨hn1, hn16⟩, hokB⟩ := okB_of_check hok
  obtain ⟨hsl0, hsrt⟩ := goodS_facts hgd
  obtain ⟨iS, hiS, hS0', hS1', hS2'⟩ := partsRS
  have hrok : ∀ r ∈ recs, okR (r.fKey, r.fVal.toNat) := fun r hr' => by
    obtain ⟨cs, h⟩ := SlA.all hr r hr'
    exact (rec_ok h).1
  have hlw := RLaw.start s recs ops
  obtain ⟨R, hR⟩ : ∃ R, R = runF s recs ops [] [] := ⟨_, rfl⟩
  rw [← hR] at hlw ⊢
  clear hR
  obtain ⟨n, hn⟩ : ∃ n, n = ops.length := ⟨_, rfl⟩
  obtain ⟨sl, hsl⟩ : ∃ sl, sl = s.length := ⟨_, rfl⟩
  obtain ⟨m, hm⟩ : ∃ m, m = recs.length := ⟨_, rfl⟩
  obtain ⟨ep, hep⟩ : ∃ ep, ep = (gcheck ops).1 := ⟨_, rfl⟩
  obtain ⟨ec, hec⟩ : ∃ ec, ec = (gcheck ops).2 := ⟨_, rfl⟩
  rw [← hec] at hok
  rw [← hep, ← hec, ← hn] at hck
  rw [← hn, ← hsl, ← hm]
  replace hn := Lib.hid hn
  replace hsl := Lib.hid hsl
  replace hm := Lib.hid hm
  replace hep := Lib.hid hep
  replace hec := Lib.hid hec
  go_enter Try.func11, Try.ntmps11
  go_upto_region 1 with fail
  refine Code.wp_world ?_
  intro w1 hw1
  have hb1 : Below w.heap.size w w1 := by rw [hw1]; exact (by repeat (first | exact Below.refl _ _ | refine below_drewN ?_ _ | refine Below.drew ?_ | (refine Below.alloc ?_ (by simp; try omega) _)))
  have hG1 : Blk w1 w.heap.size #[.slice ga n gcap] 24 := by rw [hw1]; exact ((Blk.new _ _ _).alloc _).alloc _
  have hS1 : Blk w1 (w.heap.size + 1) #[.slice so sl scap] 27 := by
    rw [hw1]
    have := (Blk.new (w.alloc (.cells #[.slice ga n gcap] 24)) #[.slice so sl scap] 27).alloc (.cells #[.slice none 0 0] 27)
    rwa [World.size_alloc] at this
  have hC1 : Blk w1 (w.heap.size + 2) #[.slice none 0 0] 27 := by
    rw [hw1]
    have := Blk.new ((w.alloc (.cells #[.slice ga n gcap] 24)).alloc (.cells #[.slice so sl scap] 27)) #[.slice none 0 0] 27
    rwa [World.size_alloc, World.size_alloc] at this
  obtain ⟨cb, hcb⟩ : ∃ cb, cb = w.heap.size + 2 := ⟨_, rfl⟩
  obtain ⟨sb, hsb⟩ : ∃ sb, sb = w.heap.size + 1 := ⟨_, rfl⟩
  obtain ⟨gb, hgb⟩ : ∃ gb, gb = w.heap.size := ⟨_, rfl⟩
  have hcbl : w.heap.size ≤ cb := by omega
  have hgbl : w.heap.size ≤ gb := by omega
  have hsbl : w.heap.size ≤ sb := by omega
  have e2 : w.heap.size + 1 + 1 = cb := by omega
  rw [← hcb] at hC1
  rw [← hsb] at hS1
  rw [← hgb] at hG1
  try rw [e2]
  try rw [← hcb]
  rw [← hsb]
  rw [← hgb]
  have hne : gb ≠ cb ∧ sb ≠ cb ∧ gb ≠ sb := by omega
  replace hcb := Lib.hid hcb
  replace hsb := Lib.hid hsb
  replace hgb := Lib.hid hgb
  clear hw1 e2
  have g1 := hG1.cellAt (i := 0) (v := .slice ga n gcap) rfl
  have hck1 := hck w1 hb1
  replace hck1 := Lib.hid hck1
  clear hck
  rw [← hn.out, ← hsl.out] at hgo
  rw [← hn.out] at hn1 hn16 hokB
  rw [← hm.out] at hshort
  go_wp2_with fail
  refine hck1.out.mono ?_
  rintro e w2 ⟨rfl, hb2⟩
  have hC2 := hC1.below hb2 hC1.lt
  have hG2 := hG1.below hb2 hG1.lt
  have hS2 := hS1.below hb2 hS1.lt
  have hb12 := hb1.trans (hb2.mono hb1.size)
  clear hck1 hb2 g1 hG1 hS1 hC1 hb1
  have g2 := hG2.cellAt (i := 0) (v := .slice ga n gcap) rfl
  have s2 := hS2.cellAt (i := 0) (v := .slice so sl scap) rfl
  have hgo2 := hgo w2 hb12
  replace hgo2 := Lib.hid hgo2
  have d0 : ((ec : Int) != 0) = false := by simp [hok]
  have d1 : decide ((512 : Int) < (m : Int)) = false := by simp; omega
  replace hok := Lib.hid hok
  replace hokB := Lib.hid hokB
  replace hsl0 := Lib.hid hsl0
  replace hsrt := Lib.hid hsrt
  replace hlw := Lib.hid hlw
  replace hsz := Lib.hid hsz
  replace hrok := Lib.hid hrok
  clear hgo
  dsimp only
  go_wp2_with fail
  refine hgo2.out.mono ?_
  rintro e w3 ⟨rfl, hb3⟩
  have hG3 := hG2.below hb3 hG2.lt
  have hS3 := hS2.below hb3 hS2.lt
  have hC3 := hC2.below hb3 hC2.lt
  have hb13 := hb12.trans (hb3.mono hb12.size)
  clear hgo2 g2 s2 hG2 hS2 hC2 hb3 hb12
  dsimp only
  go_upto_region 10 with fail
  refine Code.wp_world ?_
  intro w4 hw4
  have hb4 : Below w3.heap.size w3 w4 := by rw [hw4]; exact belowAlloc _ _
  have hX4 : Blk w4 w3.heap.size #[.slice none 0 0] 27 := by rw [hw4]; exact Blk.new _ _ _
  have hnbl := hb13.size
  have hne2 : sb ≠ w3.heap.size ∧ cb ≠ w3.heap.size ∧ gb ≠ w3.heap.size := ⟨Nat.ne_of_lt hS3.lt, Nat.ne_of_lt hC3.lt, Nat.ne_of_lt hG3.lt⟩
  obtain ⟨nb, hnb⟩ : ∃ nb, nb = w3.heap.size := ⟨_, rfl⟩
  rw [← hnb] at hX4 hnbl hne2 ⊢
  have hM4 : RMem w w4 nb gb sb cb (.slice ga n gcap) (.slice so sl scap) (.slice none 0 0) (.slice none 0 0) (.slice none 0 0) [] [] :=
    ⟨hb13.trans (hb4.mono hb13.size), RowL.nil _ _ _, RowL.nil _ _ _, hX4, fun g e => (by cases e), hG3.below hb4 hG3.lt, hS3.below hb4 hS3.lt, hC3.below hb4 hC3.lt⟩
  replace hnb := Lib.hid hnb
  clear hw4 hb4 hX4 hG3 hS3 hC3 hb13
  go_wp2_with fail
  go_loopw [11, 13] (fun x11 x13 wr => ∃ (i : Nat) (F f N : List PRS) (fv : Value), i ≤ n ∧ x13 = .int .i64 i ∧ RMem w wr nb gb sb cb (.slice ga n gcap) (.slice so sl scap) x11 fv fv F N ∧ Hid (RLaw s recs ops R i F f N)) (fun _ x13 _ => n - (intOf x13).toNat)
  case atStart => exact ⟨0, [], [], [], .slice none 0 0, Nat.zero_le _, rfl, hM4, hlw⟩
  case round =>
    clear hM4 hlw
    obtain ⟨i, F, f, N, fv, hi, rfl, hM, hL⟩ := hrel
    have g0 := hM.gB.cellAt (i := 0) (v := .slice ga n gcap) rfl
    have hMb := hM.bel
    by_cases hin : i < n
    · have d2 : decide ((i : Int) < (n : Int)) = true := by simp; omega
      have hio : i < ops.length := by rw [← hn.out]; exact hin
      obtain ⟨gx, go, rfl, hgx, _⟩ := hx.addr (by omega)
      have hgxw : gx < wr.heap.size := by have := hMb.size; omega
      obtain ⟨o, hoe⟩ : ∃ o, ops[i] = o := ⟨_, rfl⟩
      have ho : ops[i]? = some o := by rw [List.getElem?_eq_getElem hio, hoe]
      have hoB := hokB.out i o ho
      obtain ⟨ia, ic, k0, k1, k2, k3, k4, k5, k6, _, hins, _⟩ := ROp.at (imp_ops hx (hMb.mono hB)) hio hoe
      have hrds := ok_rounds hoB
      obtain ⟨nn, ll, hnn, hll, hnnl, hlll⟩ : ∃ nn ll : Nat, o.fNum = nn ∧ o.fLim = ll ∧ nn < 4294967296 ∧ ll < 4294967296 := by
        obtain ⟨cs, h⟩ := SlA.all hx o (by rw [← hoe]; exact List.getElem_mem hio)
        exact op_wf h
      obtain ⟨rd, hrd⟩ : ∃ rd : Nat, o.fRounds = rd := ⟨o.fRounds.toNat, by omega⟩
      have hagg : opAgg o ia ic = .agg #[.int .i64 o.fKind, .slice ia o.fIn.length ic, .int .i64 o.fArg, .int .u32 (nn : Nat), .int .i64 (rd : Nat), .int .i64 o.fTest, .int .u32 (ll : Nat)] := by
        unfold opAgg
        rw [hnn, hll, hrd]
        rfl
      have hinsB : ∀ k (hk : k < o.fIn.length), ∃ j : Nat, o.fIn[k] = (j : Int) ∧ j < i := fun k hk => by
        unfold okB at hoB
        simp only [Bool.and_eq_true] at hoB
        obtain ⟨j, h1, h2⟩ := insB_at hoB.2 hk
        rw [List.getElem?_eq_getElem hk] at h1
        exact ⟨j, by simpa using h1, h2⟩
      rw [hnn] at k3
      rw [hrd] at k4
      rw [hll] at k6
      have hnn2 : o.fNum.toNat < 4294967296 := by rw [hnn]; exact hnnl
      have hll2 : o.fLim.toNat < 4294967296 := by rw [hll]; exact hlll
      obtain ⟨il, hil⟩ : ∃ il, il = o.fIn.length := ⟨_, rfl⟩
      rw [← hil] at k1 hagg
      replace hagg := Lib.hid hagg
      replace hinsB := Lib.hid hinsB
      replace hoe := Lib.hid hoe
      replace ho := Lib.hid ho
      replace hoB := Lib.hid hoB
      replace hnn := Lib.hid hnn
      replace hll := Lib.hid hll
      replace hrd := Lib.hid hrd
      replace hil := Lib.hid hil
      go_upto_region 14 with fail
      refine Code.wp_world ?_
      intro w5 hw5
      have hb5 : Below wr.heap.size wr w5 := by rw [hw5]; exact belowAlloc _ _
      have hO5 : Blk w5 wr.heap.size #[.int .i64 o.fKind, .slice ia il ic, .int .i64 o.fArg, .int .u32 (nn : Nat), .int .i64 (rd : Nat), .int .i64 o.fTest, .int .u32 (ll : Nat)] 51 := by rw [hw5]; exact Blk.new _ _ _
      have hM5 := hM.below hb5
      have hins5 := (hins.imp (hb5.mono (by have := hMb.size; omega)) (Nat.le_refl _) (fun _ _ _ h => h) : SlA B 1 (RI .i64) w5 ia ic o.fIn)
      obtain ⟨ob, hob⟩ : ∃ ob, ob = wr.heap.size := ⟨_, rfl⟩
      rw [← hob] at hO5 ⊢
      have hB5 : B ≤ w5.heap.size := Nat.le_trans hB hM5.bel.size
      replace hob := Lib.hid hob
      clear hw5 hb5 hM hins k0 k1 k2 k3 k4 k5 k6 g0 hMb hgxw
      go_wp2_with fail
      go_loopw [15, 16] (fun x15 x16 wq => ∃ k : Nat, k ≤ il ∧ x16 = .int .i64 k ∧ RowL wq w5.heap.size w.heap.size x15 (insL F (o.fIn.take k)) ∧ Below w5.heap.size w5 wq) (fun _ x16 _ => il - (intOf x16).toNat)
      case atStart => exact ⟨0, Nat.zero_le _, rfl, RowL.nil _ _ _, Below.refl _ _⟩
      case round =>
        obtain ⟨k, hk, rfl, hI, hbq⟩ := hrel
        have hOq := hO5.below hbq hO5.lt
        have q1 := hOq.cellAt (i := 1) (v := .slice ia il ic) rfl
        by_cases hkn : k < il
        · have d4 : decide ((k : Int) < (il : Int)) = true := by simp; omega
          have hkl : k < o.fIn.length := by rw [← hil.out]; exact hkn
          obtain ⟨j, hj, hji⟩ := hinsB.out k hkl
          obtain ⟨ib, ioff, rfl, hib, _⟩ := hins5.addr (by omega)
          have hibq : ib < wr.heap.size := by have := hbq.size; omega
          obtain ⟨cs, _, hc, rfl, _⟩ := hins5.get k hkl
          have e0 := hc 0 (by omega)
          rw [hj] at e0
          simp only [Nat.mul_one, Nat.add_zero, List.getElem?_cons_zero] at e0
          have e1 := (hbq.cell (p := ⟨ib, ioff + k, none⟩) (by simp; omega)).trans e0
          have hjF : j < F.length := by rw [hL.out.fl]; exact hji
          obtain ⟨fg, fcap, ⟨sa, sn, sc⟩, rfl, hfg, f0, hOx, hsn⟩ := hM5.row.at hjF
          have f1 := (hbq.cell (p := ⟨fg, j, none⟩) hfg).trans f0
          have hOx2 := OwnL.below hOx hbq (Nat.le_refl _)
          have hinl : insL F (o.fIn.take (k + 1)) = insL F (o.fIn.take k) ++ [F[j]] := by
            unfold insL
            rw [List.take_succ_eq_append_getElem hkl, List.map_append, hj]
            simp [hjF]
          obtain ⟨xs, hx1, hx2, hx3⟩ := hI
          obtain ⟨xa, xc, rfl, -, -, -⟩ := OwnL.slice hx1
          have hil2 : il ≤ 2 := by
            have h1 := hoB.out
            unfold okB at h1
            simp only [Bool.and_eq_true, decide_eq_true_eq] at h1
            have h2 := h1.1.1.2
            unfold wantN at h2
            rw [hil.out, h2]
            split
            · omega
            · split <;> omega
          have hxl : xs.length ≤ 2 := by
            rw [hx2]
            unfold insL
            rw [List.length_map, List.length_take]
            omega
          have hfgq : fg < wr.heap.size := Nat.lt_of_lt_of_le hfg hbq.size
          have hFn : F.length = i := hL.out.fl
          rw [hFn]
          replace hj := Lib.hid hj
          replace hinl := Lib.hid hinl
          replace hsn := Lib.hid hsn
          replace hx2 := Lib.hid hx2
          clear hc e0 f0 hOx hFn
          go_wp2_with (at_builtin; refine Shut.out ?kc)
          unfold Shut
          refine wpList_app1g rfl _ _ 25 rfl Try.underlying25 hiS hS0' hS1' hS2' rfl (by decide) (enc := encS3) ((sa, sn, sc) : SlV) rfl hx1 rfl (encS3_len _) (encS3_one _) (by omega) (by unfold maxLen; omega) hbq.size ?_
          intro g7 cap7 w7 hown7 hgr7
          have hI7 := RowL.snoc hx1 hx2.out hx3 hOx2 hown7 hgr7
          have hb7 := hbq.trans (hgr7.below hbq.size (fun g e => (OwnL.lt hx1 g e).1))
          rw [← hinl.out] at hI7
          clear hown7 hgr7 hx1 hx3 hOx2 hbq e1 f1 q1 hOq
          go_wp2_with fail
          go_roundw
          case rel => exact ⟨k + 1, by omega, by go_num, hI7, hb7⟩
          case measure => simp [intOf]; omega
        · have d4 : decide ((k : Int) < (il : Int)) = false := by simp; omega
          obtain rfl : il = k := by omega
          rw [List.take_of_length_le (by rw [← hil.out]; exact Nat.le_refl _)] at hI
          obtain ⟨w7, hw7⟩ : ∃ w7, w7 = wr := ⟨_, rfl⟩
          rw [← hw7] at hI hbq hOq q1 ⊢
          have hM7 := hM5.below hbq
          have q0 := hOq.cellAt (i := 0) (v := .int .i64 o.fKind) rfl
          have q2 := hOq.cellAt (i := 2) (v := .int .i64 o.fArg) rfl
          have q3 := hOq.cellAt (i := 3) (v := .int .u32 (nn : Nat)) rfl
          have q4 := hOq.cellAt (i := 4) (v := .int .i64 (rd : Nat)) rfl
          have q5 := hOq.cellAt (i := 5) (v := .int .i64 o.fTest) rfl
          have q6 := hOq.cellAt (i := 6) (v := .int .u32 (ll : Nat)) rfl
          have s7 := hM7.sB.cellAt (i := 0) (v := .slice so sl scap) rfl
          have hB7 : B ≤ w7.heap.size := Nat.le_trans hB hM7.bel.size
          obtain ⟨I, hIe⟩ : ∃ I, I = insL F o.fIn := ⟨_, rfl⟩
          have hIl : I.length = o.fIn.length := by rw [hIe]; exact List.length_map _
          have hIok : ∀ l ∈ I, okL l ∧ l.length ≤ 4096 := by rw [hIe]; exact insL_ok hL.out.ok _
          have hIin0 : (I[0]?).getD [] = inAt F o 0 := by rw [hIe]; exact insL_at F o 0
          have hIin1 : (I[1]?).getD [] = inAt F o 1 := by rw [hIe]; exact insL_at F o 1
          have hin0ok : Hid (okL (inAt F o 0) ∧ okL (inAt F o 1)) := Lib.hid (by
            have hg : ∀ k : Nat, okL ((I[k]?).getD []) := fun k => by
              cases hk : I[k]? with
              | none => exact fun p hp => absurd hp (by simp)
              | some x => exact (hIok x (List.mem_of_getElem? hk)).1
            rw [← hIin0, ← hIin1]
            exact ⟨hg 0, hg 1⟩)
          rw [← hIe] at hI
          obtain ⟨Ia, Ic, rfl, hI7⟩ := hI.sta
          have hr7 : SlA w7.heap.size 5 (RRecord w7.heap.size) w7 ra rcap recs := hr.imp (hM7.bel.mono hB) hB7 (fun _ _ _ h => h.imp (hM7.bel.mono hB) hB7)
          have hrz : recs.length ≤ 512 := by rw [← hm.out]; exact hshort
          have hs7 := hs.imp' (hM7.bel.mono hB) hB7
          obtain ⟨Il, hIlen⟩ : ∃ Il, Il = I.length := ⟨_, rfl⟩
          rw [← hIlen]
          replace hIlen := Lib.hid hIlen.symm
          replace hIe := Lib.hid hIe
          clear hw7 hM5 hO5 hOq hins5 hI
          have hslc : sl = 0 ∨ sl = n := by
            have h1 := hsl0.out
            rw [← hsl.out, ← hn.out] at h1
            exact h1
          rcases hslc with hs0 | hsn
          · have hkl : (keptAt s i).length = 0 := by rw [keptAt_nil (by rw [← hsl.out]; exact hs0)]; rfl
            have hPk : PrA w7.heap.size w7 none 0 (keptAt s i) := by rw [keptAt_nil (by rw [← hsl.out]; exact hs0)]; exact SlA.nil _ _ _ _
            clear hs7
            subst hs0
            have hop := rop_any o i n hoB.out hnn2 hll2 recs I (keptAt s i) ia Ia none ra ic Ic 0 rcap w7.heap.size w7 (Nat.le_refl _) hI7 hIl hIok hPk hr7 hrz (kept_ok hsok i) (hsrt.out i) (kept_len hsz.out i)
            rw [hagg.out, hIin0, hIin1, hIlen.out, ← hm.out, hkl] at hop
            replace hop := Lib.hid hop
            go_wp2_with (go_at_call 37; refine Shut.out ?kda)
            unfold Shut
            refine hop.out.mono ?_
            rintro e w8 ⟨va, vb, l, rfl, hOl, hperm, hOk, hb8⟩
            have hM8 := hM7.below hb8
            have hOl8 := OwnL.base_le hOl hM7.bel.size
            have hOk8 := OwnL.base_le hOk hM7.bel.size
            obtain ⟨la, lc, rfl, hll1, hll2', -⟩ := OwnL.slice hOl8
            obtain ⟨ka, kc, rfl, -, -, -⟩ := OwnL.slice hOk8
            have hllm : l.length ≤ 9223372036854775807 := by unfold maxLen at hll2'; omega
            obtain ⟨vl, hvl⟩ : ∃ vl, vl = l.length := ⟨_, rfl⟩
            obtain ⟨kl, hkl⟩ : ∃ kl, kl = (opKeep o (inAt F o 0) (keptAt s i)).length := ⟨_, rfl⟩
            rw [← hvl] at hOl8 hllm ⊢
            rw [← hkl] at hOk8 ⊢
            replace hvl := Lib.hid hvl
            replace hkl := Lib.hid hkl
            have hlok : okL l := fun p hp => (opOut_ok hoB.out hnn2 (hin0ok.out.1) (hin0ok.out.2) (kept_ok hsok i) hrok.out) p (hperm.mem_iff.1 hp)
            have c8 := hM8.cB.cellAt (i := 0) (v := .slice none 0 0) rfl
            have cf8 := hM8.cB.frozen 0
            clear hop hI7 hr7 hM7 hOl hOk hll1 hll2'
            dsimp only
            by_cases hlong : 4096 < vl
            · have d3 : decide ((4096 : Int) < (vl : Int)) = true := by simp; omega
              have hRn : R = none := hL.out.long ho.out hperm (by rw [← hvl.out]; exact hlong)
              subst hRn
              have hC8 := hM8.cB
              have hb8' := hM8.bel
              clear hM8 hOl8 hOk8
              go_wp2_with fail
              refine bodyPost_ret (results_tct rfl _ _ cb _ rfl (run_loadVar_row _ cb 27 _ _ (0, 0) _ (hC8.set 0 _) Try.underlying27 rfl (by kernel_rfl))) rfl ?_
              exact RRPost.bad (k := 2) (hb8'.setCell (by simp; omega) _)
            · have d3 : decide ((4096 : Int) < (vl : Int)) = false := by simp; omega
              obtain ⟨f', hLn⟩ := hL.out.step ho.out (hsrt.out i) hperm (by rw [← hvl.out]; exact hlong) hlok
              obtain ⟨xs, hx1, hx2, hx3⟩ := hM8.row
              obtain ⟨pa2, pc2, rfl, -, -, -⟩ := OwnL.slice hx1
              have hxl : xs.length ≤ 16 := by rw [hx2, hL.out.fl]; omega
              replace hx2 := Lib.hid hx2
              replace hLn := Lib.hid hLn
              clear c8 cf8
              go_wp2_with (at_builtin; refine Shut.out ?kdb)
              unfold Shut
              refine wpList_app1g rfl _ _ 25 rfl Try.underlying25 hiS hS0' hS1' hS2' rfl (by decide) (enc := encS3) ((la, vl, lc) : SlV) rfl hx1 rfl (encS3_len _) (encS3_one _) (by omega) (by unfold maxLen; omega) hM8.bel.size ?_
              intro g9 cap9 w9 hown9 hgr9
              have hrow9 := RowL.snoc hx1 hx2.out hx3 hOl8 hown9 hgr9
              have hM9 := hM8.putRow hgr9 hrow9
              have hOk9 := OwnL.chg hOk8 (Chg.of_grown hgr9.grown) (fun g e s => by
                obtain ⟨cs, hb⟩ := own_ty hx1 g s
                exact OwnL.ne_blk hOk8 hb (by decide) e)
              clear hown9 hgr9 hrow9 hM8 hx1 hx3 hOl8 hOk8
              obtain ⟨ys, hy1, hy2, hy3⟩ := hM9.fol
              obtain ⟨na2, nc2, e2, -, -, -⟩ := OwnL.slice hy1
              subst e2
              have hyl : ys.length ≤ 16 := by rw [hy2, hL.out.nl]; omega
              replace hy2 := Lib.hid hy2
              have n9 := hM9.box.cellAt (i := 0) (v := .slice na2 ys.length nc2) rfl
              have nf9 := hM9.box.frozen 0
              go_wp2_with (at_builtin; refine Shut.out ?kdc)
              unfold Shut
              refine wpList_app1g rfl _ _ 25 rfl Try.underlying25 hiS hS0' hS1' hS2' rfl (by decide) (enc := encS3) ((ka, kl, kc) : SlV) rfl hy1 rfl (encS3_len _) (encS3_one _) (by omega) (by unfold maxLen; omega) hM9.bel.size ?_
              intro g10 cap10 w10 hown10 hgr10
              have hfol10 := RowL.snoc hy1 hy2.out hy3 hOk9 hown10 hgr10
              have hM10 := hM9.putFol hgr10 hfol10
              have n10 := hM10.box.cellAt (i := 0) (v := .slice na2 ys.length nc2) rfl
              have nf10 := hM10.box.frozen 0
              have hM11 := hM10.setBox hnbl hne2.1 hne2.2.1 hne2.2.2 (.slice (some ⟨g10, 0, none⟩) (ys.length + 1) cap10)
              clear hown10 hgr10 hfol10 hM9 hM10 hy1 hy3 hOk9 n9 nf9
              go_wp2_with fail
              go_roundw
              case rel => exact ⟨i + 1, _, _, _, _, by omega, by go_num, hM11, hLn⟩
              case measure => simp [intOf]; omega
          · have d5 : decide ((0 : Int) < (sl : Int)) = true := by simp; omega
            obtain ⟨xb, xo, kao, kcc, rfl, hxb, ek, hPk⟩ := StA.kept hs7 (i := i) (by rw [← hsl.out, hsn]; exact hin)
            obtain ⟨kn, hkn'⟩ : ∃ kn, (keptAt s i).length = kn := ⟨_, rfl⟩
            rw [hkn'] at ek
            have hisl : i < sl := by omega
            clear hs7 hsn
            have hop := rop_any o i n hoB.out hnn2 hll2 recs I (keptAt s i) ia Ia kao ra ic Ic kcc rcap w7.heap.size w7 (Nat.le_refl _) hI7 hIl hIok hPk hr7 hrz (kept_ok hsok i) (hsrt.out i) (kept_len hsz.out i)
            rw [hagg.out, hIin0, hIin1, hIlen.out, ← hm.out, hkn'] at hop
            replace hop := Lib.hid hop
            go_wp2_with (go_at_call 37; refine Shut.out ?kea)
            unfold Shut
            refine hop.out.mono ?_
            rintro e w8 ⟨va, vb, l, rfl, hOl, hperm, hOk, hb8⟩
            have hM8 := hM7.below hb8
            have hOl8 := OwnL.base_le hOl hM7.bel.size
            have hOk8 := OwnL.base_le hOk hM7.bel.size
            obtain ⟨la, lc, rfl, hll1, hll2', -⟩ := OwnL.slice hOl8
            obtain ⟨ka, kc, rfl, -, -, -⟩ := OwnL.slice hOk8
            have hllm : l.length ≤ 9223372036854775807 := by unfold maxLen at hll2'; omega
            obtain ⟨vl, hvl⟩ : ∃ vl, vl = l.length := ⟨_, rfl⟩
            obtain ⟨kl, hkl⟩ : ∃ kl, kl = (opKeep o (inAt F o 0) (keptAt s i)).length := ⟨_, rfl⟩
            rw [← hvl] at hOl8 hllm ⊢
            rw [← hkl] at hOk8 ⊢
            replace hvl := Lib.hid hvl
            replace hkl := Lib.hid hkl
            have hlok : okL l := fun p hp => (opOut_ok hoB.out hnn2 (hin0ok.out.1) (hin0ok.out.2) (kept_ok hsok i) hrok.out) p (hperm.mem_iff.1 hp)
            have c8 := hM8.cB.cellAt (i := 0) (v := .slice none 0 0) rfl
            have cf8 := hM8.cB.frozen 0
            clear hop hI7 hr7 hM7 hOl hOk hll1 hll2'
            dsimp only
            by_cases hlong : 4096 < vl
            · have d3 : decide ((4096 : Int) < (vl : Int)) = true := by simp; omega
              have hRn : R = none := hL.out.long ho.out hperm (by rw [← hvl.out]; exact hlong)
              subst hRn
              have hC8 := hM8.cB
              have hb8' := hM8.bel
              clear hM8 hOl8 hOk8
              go_wp2_with fail
              refine bodyPost_ret (results_tct rfl _ _ cb _ rfl (run_loadVar_row _ cb 27 _ _ (0, 0) _ (hC8.set 0 _) Try.underlying27 rfl (by kernel_rfl))) rfl ?_
              exact RRPost.bad (k := 2) (hb8'.setCell (by simp; omega) _)
            · have d3 : decide ((4096 : Int) < (vl : Int)) = false := by simp; omega
              obtain ⟨f', hLn⟩ := hL.out.step ho.out (hsrt.out i) hperm (by rw [← hvl.out]; exact hlong) hlok
              obtain ⟨xs, hx1, hx2, hx3⟩ := hM8.row
              obtain ⟨pa2, pc2, rfl, -, -, -⟩ := OwnL.slice hx1
              have hxl : xs.length ≤ 16 := by rw [hx2, hL.out.fl]; omega
              replace hx2 := Lib.hid hx2
              replace hLn := Lib.hid hLn
              clear c8 cf8
              go_wp2_with (at_builtin; refine Shut.out ?keb)
              unfold Shut
              refine wpList_app1g rfl _ _ 25 rfl Try.underlying25 hiS hS0' hS1' hS2' rfl (by decide) (enc := encS3) ((la, vl, lc) : SlV) rfl hx1 rfl (encS3_len _) (encS3_one _) (by omega) (by unfold maxLen; omega) hM8.bel.size ?_
              intro g9 cap9 w9 hown9 hgr9
              have hrow9 := RowL.snoc hx1 hx2.out hx3 hOl8 hown9 hgr9
              have hM9 := hM8.putRow hgr9 hrow9
              have hOk9 := OwnL.chg hOk8 (Chg.of_grown hgr9.grown) (fun g e s => by
                obtain ⟨cs, hb⟩ := own_ty hx1 g s
                exact OwnL.ne_blk hOk8 hb (by decide) e)
              clear hown9 hgr9 hrow9 hM8 hx1 hx3 hOl8 hOk8
              obtain ⟨ys, hy1, hy2, hy3⟩ := hM9.fol
              obtain ⟨na2, nc2, e2, -, -, -⟩ := OwnL.slice hy1
              subst e2
              have hyl : ys.length ≤ 16 := by rw [hy2, hL.out.nl]; omega
              replace hy2 := Lib.hid hy2
              have n9 := hM9.box.cellAt (i := 0) (v := .slice na2 ys.length nc2) rfl
              have nf9 := hM9.box.frozen 0
              go_wp2_with (at_builtin; refine Shut.out ?kec)
              unfold Shut
              refine wpList_app1g rfl _ _ 25 rfl Try.underlying25 hiS hS0' hS1' hS2' rfl (by decide) (enc := encS3) ((ka, kl, kc) : SlV) rfl hy1 rfl (encS3_len _) (encS3_one _) (by omega) (by unfold maxLen; omega) hM9.bel.size ?_
              intro g10 cap10 w10 hown10 hgr10
              have hfol10 := RowL.snoc hy1 hy2.out hy3 hOk9 hown10 hgr10
              have hM10 := hM9.putFol hgr10 hfol10
              have n10 := hM10.box.cellAt (i := 0) (v := .slice na2 ys.length nc2) rfl
              have nf10 := hM10.box.frozen 0
              have hM11 := hM10.setBox hnbl hne2.1 hne2.2.1 hne2.2.2 (.slice (some ⟨g10, 0, none⟩) (ys.length + 1) cap10)
              clear hown10 hgr10 hfol10 hM9 hM10 hy1 hy3 hOk9 n9 nf9
              go_wp2_with fail
              go_roundw
              case rel => exact ⟨i + 1, _, _, _, _, by omega, by go_num, hM11, hLn⟩
              case measure => simp [intOf]; omega
    · have d2 : decide ((i : Int) < (n : Int)) = false := by simp; omega
      obtain rfl : n = i := by omega
      have hRf : R = some (f, N) := by
        have h1 := hL.out.run
        rw [List.drop_of_length_le (by rw [← hn.out]; exact Nat.le_refl _)] at h1
        exact h1.symm
      subst hRf
      obtain ⟨q, rfl⟩ : ∃ q, n = q + 1 := ⟨n - 1, by omega⟩
      have hqF : q < F.length := by rw [hL.out.fl]; omega
      have hlast : sortP (f.getLast?.getD []) = sortP F[q] := by
        refine (sortP_congr ?_).symm
        have h1 := getLast_perm hL.out.pl
        rw [List.getLast?_eq_getElem?, hL.out.fl, Nat.add_sub_cancel, List.getElem?_eq_getElem hqF] at h1
        exact h1
      obtain ⟨fg, fcap, ⟨sa, sn, sc⟩, rfl, hfg, f0, hOx, hsn⟩ := hM.row.at hqF
      have hFq := (hL.out.ok F[q] (List.getElem_mem hqF)).2
      have hd1 : Below wr.heap.size wr wr.drew := (Below.refl _ _).drew
      obtain ⟨ao, cap, e, hPl⟩ := OwnR.pra hOx
      unfold SlV.val at e f0
      simp only [Value.slice.injEq] at e
      obtain ⟨rfl, rfl, rfl⟩ := e
      have hor := rorder_any _ F[q] sa sc wr.heap.size wr.drew rfl (Nat.le_refl _) (hPl.imp' hd1 (Nat.le_refl _)) (by omega)
      obtain ⟨X, hX⟩ : ∃ X, X = F[q] := ⟨_, rfl⟩
      rw [← hX] at hor hFq f0 hlast
      replace hlast := Lib.hid hlast
      obtain ⟨vl, hvl⟩ : ∃ vl, vl = X.length := ⟨_, rfl⟩
      dsimp only at f0
      rw [← hvl] at hor f0 hFq
      have hFl : F.length = q + 1 := hL.out.fl
      rw [hFl]
      have hFh := hL.out.nl
      obtain ⟨fo, fc, e2, -⟩ := hM.fol.sta
      subst e2
      rw [hFh] at hM
      have n0 := hM.box.cellAt (i := 0) (v := .slice fo (q + 1) fc) rfl
      have hnbw := hM.box.lt
      have c0 := hM.cB.cellAt (i := 0) (v := .slice none 0 0) rfl
      have cf := hM.cB.frozen 0
      replace hor := Lib.hid hor
      replace hvl := Lib.hid hvl
      replace hX := Lib.hid hX
      replace hFh := Lib.hid hFh
      have hwq : IntKind.i64.wrap (q : Int) = (q : Int) := IntWalk.i64_in _ (by omega)
      have hqlt : q < q + 1 := Nat.lt_succ_self q
      clear hL hOx hPl hsn hFl
      go_upto_region 27 with fail
      refine wp_region_tree (fun wx => wx.cell? ⟨fg, q, none⟩ = some (.slice sa vl sc) ∧ wx.cell? ⟨nb, 0, none⟩ = some (.slice fo (q + 1) fc)) 9 11 (by kernel_rfl) rfl (by kernel_rfl) (fun d _ _ _ _ h => by cases d <;> exact h) (⟨f0, n0⟩) (fun opz T hOps hT hTok hHeld => ?_)
      (refine wpTree_q 0 hTok hOps (by kernel_rfl) rfl rfl ⟨?_, ?_, ?_⟩; rotate_left; (focus (intro wx hSx; (try dsimp only at hSx); go_simp; (try with_reducible rfl))); (simp only [Act.put, List.setIfInBounds_toArray, List.set_cons_zero, List.set_cons_succ]))
      (refine wpTree_q 1 hTok hOps (by kernel_rfl) rfl rfl ⟨?_, ?_, ?_⟩; rotate_left; (focus (intro wx hSx; (try dsimp only at hSx); go_simp; (try with_reducible rfl))); (simp only [Act.put, List.setIfInBounds_toArray, List.set_cons_zero, List.set_cons_succ]))
      (refine wpTree_q 2 hTok hOps (by kernel_rfl) rfl rfl ⟨?_, ?_, ?_⟩; rotate_left; (focus (intro wx hSx; (try dsimp only at hSx); go_simp; (try with_reducible rfl))); (simp only [Act.put, List.setIfInBounds_toArray, List.set_cons_zero, List.set_cons_succ]))
      (refine wpTree_q 3 hTok hOps (by kernel_rfl) rfl rfl ⟨?_, ?_, ?_⟩; rotate_left; (focus (intro wx hSx; (try dsimp only at hSx); go_simp; (try with_reducible rfl))); (simp only [Act.put, List.setIfInBounds_toArray, List.set_cons_zero, List.set_cons_succ]))
      (refine wpTree_qg 4 hTok hOps (by kernel_rfl) rfl rfl ⟨?_, ?_, ?_⟩; rotate_left; (focus (intro wx hSx; (try dsimp only at hSx); go_simp; rw [if_pos (by omega)])); (simp only [Act.put, List.setIfInBounds_toArray, List.set_cons_zero, List.set_cons_succ]))
      (refine wpTree_q 5 hTok hOps (by kernel_rfl) rfl rfl ⟨?_, ?_, ?_⟩; rotate_left; (focus (intro wx hSx; (try dsimp only at hSx); go_simp; (try with_reducible rfl))); (simp only [Act.put, List.setIfInBounds_toArray, List.set_cons_zero, List.set_cons_succ]))
      (refine wpTree_q 7 hTok hOps (by kernel_rfl) rfl rfl ⟨?_, ?_, ?_⟩; rotate_left; (focus (intro wx hSx; (try dsimp only at hSx); go_simp; (try with_reducible rfl))); (simp only [Act.put, List.setIfInBounds_toArray, List.set_cons_zero, List.set_cons_succ]))
      refine wpTree_1 6 hOps (by kernel_rfl) (by decide) rfl (fun K' hK => ?_)
      go_simp
      refine hor.out.mono ?_
      rintro e w9 ⟨v9, rfl, hown9, hb9⟩
      have hb19 : Below wr.heap.size wr w9 := hd1.trans hb9
      have hM9 := hM.below hb19
      dsimp only
      refine hK.out _ _ ⟨(hb19.cell (p := ⟨fg, q, none⟩) hfg).trans f0, (hb19.cell (p := ⟨nb, 0, none⟩) hnbw).trans n0⟩ ?_
      clear hK K' hor f0 n0 c0 cf
      try simp only [Act.put, List.setIfInBounds_toArray, List.set_cons_zero, List.set_cons_succ]
      (refine wpTree_q 8 hTok hOps (by kernel_rfl) rfl rfl ⟨?_, ?_, ?_⟩; rotate_left; (focus (intro wx hSx; (try dsimp only at hSx); go_simp; (try with_reducible rfl))); (simp only [Act.put, List.setIfInBounds_toArray, List.set_cons_zero, List.set_cons_succ]))
      refine wpTree_nil hOps (by kernel_rfl) ?_
      refine hT.out _ _ ?_
      simp only [List.drop_succ_cons, List.drop_zero]
      clear hOps hT hTok
      try clear hHeld
      have c9 := hM9.cB.cellAt (i := 0) (v := .slice none 0 0) rfl
      have cf9 := hM9.cB.frozen 0
      have hown9' := OwnL.base_le hown9 hMb.size
      have hfol := (hM9.fol.set_state hM9.cB (.slice fo (q + 1) fc)).sta
      have hownF : OwnR (w9.setCell ⟨cb, 0, none⟩ (.slice fo (q + 1) fc)) w.heap.size v9 (sortP X) := OwnL.chg hown9' ((Chg.refl (fun k => k = cb) w9).setCell ⟨cb, 0, none⟩ (.slice fo (q + 1) fc) (fun _ => rfl)) (fun g e e2 => by
        subst e2
        exact OwnL.ne_blk hown9' hM9.cB (by decide) e)
      have hbF : Below w.heap.size w (w9.setCell ⟨cb, 0, none⟩ (.slice fo (q + 1) fc)) := hM9.bel.setCell hcbl _
      have hC9 := hM9.cB
      clear hM hM9 hown9 hown9' hb9 hb19
      go_wp2_with fail
      refine bodyPost_ret (results_tct rfl _ _ cb _ rfl (run_loadVar_row _ cb 27 _ _ (0, 0) _ (hC9.set 0 _) Try.underlying27 rfl (by kernel_rfl))) rfl ?_
      dsimp only
      rw [hlast.out]
      obtain ⟨so', cap', e, hst⟩ := hfol
      rw [hFh.out] at e
      simp only [Value.slice.injEq, true_and] at e
      obtain ⟨rfl, rfl⟩ := e
      exact ⟨v9, fo, fc, by rw [hFh.out]; rfl, hownF, hst, hbF⟩

/-- The document's Run, whatever it is given. -/
theorem rrun_any (ops : List TOp) (s : ST) (recs : List TRecord) (ga so ra : Option Addr) (gcap scap rcap B : Nat) (w : World) (hB : B ≤ w.heap.size) (hx : SlA B 7 (ROp B) w ga gcap ops) (hs : StA w B so scap s) (hr : SlA B 5 (RRecord B) w ra rcap recs) (hsok : okS s) (hsz : ∀ l ∈ s, l.length ≤ 5864062014805) :
    Calls Try.prog 11 #[.agg #[.slice ga ops.length gcap], .agg #[.slice so s.length scap], .slice ra recs.length rcap] w (RRPost w (runM ops s recs)) := by
  unfold runM
  by_cases h1 : (gcheck ops).2 ≠ 0
  · rw [if_pos h1]
    exact rrun_graph ops s recs ga so ra gcap scap rcap B w hB hx h1
  rw [if_neg h1]
  have h1' : (gcheck ops).2 = 0 := by omega
  by_cases h2 : goodS ops s = false
  · rw [if_pos h2]
    exact rrun_form ops s recs ga so ra gcap scap rcap B w hB hx hs h1' h2
  rw [if_neg h2]
  have h2' : goodS ops s = true := by simpa using h2
  by_cases h3 : 512 < recs.length
  · rw [if_pos h3]
    exact rrun_long ops s recs ga so ra gcap scap rcap B w hB hx hs h1' h2' h3
  rw [if_neg h3]
  exact rrun_ok ops s recs ga so ra gcap scap rcap B w hB hx hs hr h1' h2' (by omega) hsok hsz
end Go.Proofs.Ytbianedgogdeeaa
