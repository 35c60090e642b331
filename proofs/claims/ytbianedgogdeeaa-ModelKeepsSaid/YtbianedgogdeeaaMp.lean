/- Model: Run refuses. -/
import Derived.Test.YtbianedgogdeeaaMo
namespace Go.Proofs.Ytbianedgogdeeaa
open Go.RowKit Go.Maps Fold Go.Lib
attribute [local go_sem] Oper.semAt_some
set_option linter.unusedVariables false
set_option linter.unusedSimpArgs false

theorem results_tct {fn : Func} {q1 p q2 : Tmp} {ty : TypeId} {P : Program} (h : fn.results = #[.tmp q1, .cell p ty, .tmp q2]) (tmps : Array Value) (w : World) (g : Nat) (u : Value)
    (hp : tmps.getD p undef = .pointer (some ⟨g, 0, none⟩)) (hl : (loadVar ty ⟨g, 0, none⟩).run P w = .ok u w) :
    (results fn tmps).run P w = .ok (.tuple #[tmps.getD q1 undef, u, tmps.getD q2 undef]) w := by
  have hp' : tmps[p]?.getD undef = .pointer (some ⟨g, 0, none⟩) := by simpa using hp
  simp [results, h, hp', asAddr, hl]
/-- A state of the call's own. -/
def StO (w : World) (base : Nat) (sv : Value) (st : ST) : Prop :=
  (sv = .slice none 0 0 ∧ st = []) ∨ ∃ (nr : Nat) (ns : List Value), sv = .slice (some ⟨nr, 0, none⟩) ns.length ns.length ∧ Blk w nr ns.toArray 29 ∧ base ≤ nr ∧ ns.length = st.length ∧ (0 < ns.length ∧ ns.length ≤ 16) ∧
    (∀ j (hj : j < st.length), ∃ v, ns[j]? = some v ∧ OwnR w base v st[j])
/-- What Run answers. -/
def RunPost (w : World) (R : PRS × ST × Nat) (e : Ending) (w' : World) : Prop :=
  ∃ v sv, e = .returned (.tuple #[v, .agg #[sv], .int .i64 (R.2.2 : Nat)]) ∧ OwnR w' w.heap.size v R.1 ∧ StO w' w.heap.size sv R.2.1 ∧ Below w.heap.size w w'
/-- All that a state kept lies below block b. -/
def StLow (w : World) (b : Nat) (sv : Value) : Prop := sv = .slice none 0 0 ∨ ∃ (nr c : Nat) (ns : List Value), sv = .slice (some ⟨nr, 0, none⟩) ns.length c ∧ Blk w nr ns.toArray 29 ∧ nr < b ∧ ∀ v ∈ ns, ∀ g, v.ownBlock = some g → g < b
/-- What Run answers, and that what came out lies behind what is kept. -/
def RunPost2 (w : World) (R : PRS × ST × Nat) (e : Ending) (w' : World) : Prop :=
  ∃ v sv b, e = .returned (.tuple #[v, .agg #[sv], .int .i64 (R.2.2 : Nat)]) ∧ OwnR w' b v R.1 ∧ StO w' w.heap.size sv R.2.1 ∧ Below w.heap.size w w' ∧ w.heap.size ≤ b ∧ StLow w' b sv
theorem RunPost2.post {w w' : World} {R : PRS × ST × Nat} {e : Ending} (h : RunPost2 w R e w') : RunPost w R e w' := by
  obtain ⟨v, sv, b, h1, h2, h3, h4, h5, _⟩ := h
  exact ⟨v, sv, h1, OwnL.base_le h2 h5, h3, h4⟩
theorem RunPost2.bad {w w' : World} {k : Nat} (hb : Below w.heap.size w w') : RunPost2 w ([], [], k) (.returned (.tuple #[.slice none 0 0, .agg #[.slice none 0 0], .int .i64 (k : Nat)])) w' :=
  ⟨_, _, w.heap.size, rfl, OwnL.nil _ _ _ _ _, .inl ⟨rfl, rfl⟩, hb, Nat.le_refl _, .inl rfl⟩
theorem RunPost.bad {w w' : World} {k : Nat} (hb : Below w.heap.size w w') : RunPost w ([], [], k) (.returned (.tuple #[.slice none 0 0, .agg #[.slice none 0 0], .int .i64 (k : Nat)])) w' :=
  ⟨_, _, rfl, OwnL.nil _ _ _ _ _, .inl ⟨rfl, rfl⟩, hb⟩

set_option maxRecDepth 100000 in
set_option maxHeartbeats 4000000 in
theorem run_graph (ops : List TOp) (s : ST) (recs : List TRecord) (ga so ra : Option Addr) (gcap scap rcap B : Nat) (w : World) (hB : B ≤ w.heap.size) (hx : SlA B 7 (ROp B) w ga gcap ops) (hok : (gcheck ops).2 ≠ 0) :
    Calls Try.prog 10 #[.agg #[.slice ga ops.length gcap], .agg #[.slice so s.length scap], .slice ra recs.length rcap] w (RunPost w ([], [], 13)) := by
  have hck := fun W (hW : Below w.heap.size w W) => gcheck_all ops gcap ga W B (Nat.le_trans hB hW.size) (imp_ops hx (hW.mono hB))
  obtain ⟨n, hn⟩ : ∃ n, n = ops.length := ⟨_, rfl⟩
  obtain ⟨sl, hsl⟩ : ∃ sl, sl = s.length := ⟨_, rfl⟩
  obtain ⟨m, hm⟩ : ∃ m, m = recs.length := ⟨_, rfl⟩
  obtain ⟨ep, hep⟩ : ∃ ep, ep = (gcheck ops).1 := ⟨_, rfl⟩
  obtain ⟨ec, hec⟩ : ∃ ec, ec = (gcheck ops).2 := ⟨_, rfl⟩
  rw [← hec] at hok
  rw [← hep, ← hec, ← hn] at hck
  rw [← hn, ← hsl, ← hm]
  replace hn := Lib.hid hn
  replace hsl := Lib.hid hsl
  replace hm := Lib.hid hm
  replace hep := Lib.hid hep
  replace hec := Lib.hid hec
  go_enter Try.func10, Try.ntmps10
  go_upto_region 1 with fail
  refine Code.wp_world ?_
  intro w1 hw1
  have hb1 : Below w.heap.size w w1 := by rw [hw1]; exact (by repeat (first | exact Below.refl _ _ | refine below_drewN ?_ _ | refine Below.drew ?_ | (refine Below.alloc ?_ (by simp; try omega) _)))
  have hG1 : Blk w1 w.heap.size #[.slice ga n gcap] 24 := by rw [hw1]; exact (((Blk.new _ _ _).alloc _).alloc _).alloc _
  have hS1 : Blk w1 (w.heap.size + 1) #[.slice so sl scap] 27 := by
    rw [hw1]
    have := (((Blk.new (w.alloc (.cells #[.slice ga n gcap] 24)) #[.slice so sl scap] 27)).alloc (.cells #[.slice ra m rcap] 28)).alloc (.cells #[.slice none 0 0] 27)
    rwa [World.size_alloc] at this
  have hR1 : Blk w1 (w.heap.size + 2) #[.slice ra m rcap] 28 := by
    rw [hw1]
    have := (Blk.new ((w.alloc (.cells #[.slice ga n gcap] 24)).alloc (.cells #[.slice so sl scap] 27)) #[.slice ra m rcap] 28).alloc (.cells #[.slice none 0 0] 27)
    rwa [World.size_alloc, World.size_alloc] at this
  have hC1 : Blk w1 (w.heap.size + 3) #[.slice none 0 0] 27 := by
    rw [hw1]
    have := Blk.new (((w.alloc (.cells #[.slice ga n gcap] 24)).alloc (.cells #[.slice so sl scap] 27)).alloc (.cells #[.slice ra m rcap] 28)) #[.slice none 0 0] 27
    rwa [World.size_alloc, World.size_alloc, World.size_alloc] at this
  obtain ⟨cb, hcb⟩ : ∃ cb, cb = w.heap.size + 3 := ⟨_, rfl⟩
  obtain ⟨rb, hrb⟩ : ∃ rb, rb = w.heap.size + 2 := ⟨_, rfl⟩
  obtain ⟨sb, hsb⟩ : ∃ sb, sb = w.heap.size + 1 := ⟨_, rfl⟩
  obtain ⟨gb, hgb⟩ : ∃ gb, gb = w.heap.size := ⟨_, rfl⟩
  have hcbl : w.heap.size ≤ cb := by omega
  have hgbl : w.heap.size ≤ gb := by omega
  have hsbl : w.heap.size ≤ sb := by omega
  have hrbl : w.heap.size ≤ rb := by omega
  have e3 : w.heap.size + 1 + 1 + 1 = cb := by omega
  have e2 : w.heap.size + 1 + 1 = rb := by omega
  rw [← hcb] at hC1
  rw [← hrb] at hR1
  rw [← hsb] at hS1
  rw [← hgb] at hG1
  try rw [e3]
  try rw [← hcb]
  try rw [e2]
  try rw [← hrb]
  rw [← hsb]
  rw [← hgb]
  have hne : gb ≠ cb ∧ sb ≠ cb ∧ rb ≠ cb ∧ gb ≠ sb := by omega
  replace hcb := Lib.hid hcb
  replace hrb := Lib.hid hrb
  replace hsb := Lib.hid hsb
  replace hgb := Lib.hid hgb
  clear hw1 e2 e3
  have g1 := hG1.cellAt (i := 0) (v := .slice ga n gcap) rfl
  have hck1 := hck w1 hb1
  replace hck1 := Lib.hid hck1
  clear hck
  go_wp2_with fail
  refine hck1.out.mono ?_
  rintro e w2 ⟨rfl, hb2⟩
  have hC2 := hC1.below hb2 hC1.lt
  have hG2 := hG1.below hb2 hG1.lt
  have hS2 := hS1.below hb2 hS1.lt
  have hR2 := hR1.below hb2 hR1.lt
  have hb12 := hb1.trans (hb2.mono hb1.size)
  clear hck1 hb2 g1 hG1 hS1 hR1 hC1 hb1
  have c0 := hC2.cellAt (i := 0) (v := .slice none 0 0) rfl
  have cf := hC2.frozen 0
  have d0 : ((ec : Int) != 0) = true := by simpa using hok
  dsimp only
  go_wp2_with fail
  refine bodyPost_ret (results_tct rfl _ _ cb _ rfl (run_loadVar_row _ cb 27 _ _ (0, 0) _ (hC2.set 0 _) Try.underlying27 rfl (by kernel_rfl))) rfl ?_
  exact RunPost.bad (k := 13) (hb12.setCell (by simp; omega) _)

set_option maxRecDepth 100000 in
set_option maxHeartbeats 4000000 in
theorem run_form (ops : List TOp) (s : ST) (recs : List TRecord) (ga so ra : Option Addr) (gcap scap rcap B : Nat) (w : World) (hB : B ≤ w.heap.size) (hx : SlA B 7 (ROp B) w ga gcap ops) (hs : StA w B so scap s) (hok : (gcheck ops).2 = 0) (hgd : goodS ops s = false) :
    Calls Try.prog 10 #[.agg #[.slice ga ops.length gcap], .agg #[.slice so s.length scap], .slice ra recs.length rcap] w (RunPost w ([], [], 3)) := by
  have hck := fun W (hW : Below w.heap.size w W) => gcheck_all ops gcap ga W B (Nat.le_trans hB hW.size) (imp_ops hx (hW.mono hB))
  have hgo := fun W (hW : Below w.heap.size w W) => good_any ops s ga so gcap scap B W (Nat.le_trans hB hW.size) (imp_ops hx (hW.mono hB)) (hs.imp' (hW.mono hB) (Nat.le_refl _))
  rw [hgd] at hgo
  obtain ⟨n, hn⟩ : ∃ n, n = ops.length := ⟨_, rfl⟩
  obtain ⟨sl, hsl⟩ : ∃ sl, sl = s.length := ⟨_, rfl⟩
  obtain ⟨m, hm⟩ : ∃ m, m = recs.length := ⟨_, rfl⟩
  obtain ⟨ep, hep⟩ : ∃ ep, ep = (gcheck ops).1 := ⟨_, rfl⟩
  obtain ⟨ec, hec⟩ : ∃ ec, ec = (gcheck ops).2 := ⟨_, rfl⟩
  rw [← hec] at hok
  rw [← hep, ← hec, ← hn] at hck
  rw [← hn, ← hsl, ← hm]
  replace hn := Lib.hid hn
  replace hsl := Lib.hid hsl
  replace hm := Lib.hid hm
  replace hep := Lib.hid hep
  replace hec := Lib.hid hec
  go_enter Try.func10, Try.ntmps10
  go_upto_region 1 with fail
  refine Code.wp_world ?_
  intro w1 hw1
  have hb1 : Below w.heap.size w w1 := by rw [hw1]; exact (by repeat (first | exact Below.refl _ _ | refine below_drewN ?_ _ | refine Below.drew ?_ | (refine Below.alloc ?_ (by simp; try omega) _)))
  have hG1 : Blk w1 w.heap.size #[.slice ga n gcap] 24 := by rw [hw1]; exact (((Blk.new _ _ _).alloc _).alloc _).alloc _
  have hS1 : Blk w1 (w.heap.size + 1) #[.slice so sl scap] 27 := by
    rw [hw1]
    have := (((Blk.new (w.alloc (.cells #[.slice ga n gcap] 24)) #[.slice so sl scap] 27)).alloc (.cells #[.slice ra m rcap] 28)).alloc (.cells #[.slice none 0 0] 27)
    rwa [World.size_alloc] at this
  have hR1 : Blk w1 (w.heap.size + 2) #[.slice ra m rcap] 28 := by
    rw [hw1]
    have := (Blk.new ((w.alloc (.cells #[.slice ga n gcap] 24)).alloc (.cells #[.slice so sl scap] 27)) #[.slice ra m rcap] 28).alloc (.cells #[.slice none 0 0] 27)
    rwa [World.size_alloc, World.size_alloc] at this
  have hC1 : Blk w1 (w.heap.size + 3) #[.slice none 0 0] 27 := by
    rw [hw1]
    have := Blk.new (((w.alloc (.cells #[.slice ga n gcap] 24)).alloc (.cells #[.slice so sl scap] 27)).alloc (.cells #[.slice ra m rcap] 28)) #[.slice none 0 0] 27
    rwa [World.size_alloc, World.size_alloc, World.size_alloc] at this
  obtain ⟨cb, hcb⟩ : ∃ cb, cb = w.heap.size + 3 := ⟨_, rfl⟩
  obtain ⟨rb, hrb⟩ : ∃ rb, rb = w.heap.size + 2 := ⟨_, rfl⟩
  obtain ⟨sb, hsb⟩ : ∃ sb, sb = w.heap.size + 1 := ⟨_, rfl⟩
  obtain ⟨gb, hgb⟩ : ∃ gb, gb = w.heap.size := ⟨_, rfl⟩
  have hcbl : w.heap.size ≤ cb := by omega
  have hgbl : w.heap.size ≤ gb := by omega
  have hsbl : w.heap.size ≤ sb := by omega
  have hrbl : w.heap.size ≤ rb := by omega
  have e3 : w.heap.size + 1 + 1 + 1 = cb := by omega
  have e2 : w.heap.size + 1 + 1 = rb := by omega
  rw [← hcb] at hC1
  rw [← hrb] at hR1
  rw [← hsb] at hS1
  rw [← hgb] at hG1
  try rw [e3]
  try rw [← hcb]
  try rw [e2]
  try rw [← hrb]
  rw [← hsb]
  rw [← hgb]
  have hne : gb ≠ cb ∧ sb ≠ cb ∧ rb ≠ cb ∧ gb ≠ sb := by omega
  replace hcb := Lib.hid hcb
  replace hrb := Lib.hid hrb
  replace hsb := Lib.hid hsb
  replace hgb := Lib.hid hgb
  clear hw1 e2 e3
  have g1 := hG1.cellAt (i := 0) (v := .slice ga n gcap) rfl
  have hck1 := hck w1 hb1
  replace hck1 := Lib.hid hck1
  clear hck
  rw [← hn.out, ← hsl.out] at hgo
  go_wp2_with fail
  refine hck1.out.mono ?_
  rintro e w2 ⟨rfl, hb2⟩
  have hC2 := hC1.below hb2 hC1.lt
  have hG2 := hG1.below hb2 hG1.lt
  have hS2 := hS1.below hb2 hS1.lt
  have hR2 := hR1.below hb2 hR1.lt
  have hb12 := hb1.trans (hb2.mono hb1.size)
  clear hck1 hb2 g1 hG1 hS1 hR1 hC1 hb1
  have g2 := hG2.cellAt (i := 0) (v := .slice ga n gcap) rfl
  have s2 := hS2.cellAt (i := 0) (v := .slice so sl scap) rfl
  have hgo2 := hgo w2 hb12
  replace hgo2 := Lib.hid hgo2
  have d0 : ((ec : Int) != 0) = false := by simp [hok]
  replace hok := Lib.hid hok
  clear hgo
  dsimp only
  go_wp2_with fail
  refine hgo2.out.mono ?_
  rintro e w3 ⟨rfl, hb3⟩
  have hC3 := hC2.below hb3 hC2.lt
  have hb13 := hb12.trans (hb3.mono hb12.size)
  clear hgo2 g2 s2
  have c0 := hC3.cellAt (i := 0) (v := .slice none 0 0) rfl
  have cf := hC3.frozen 0
  dsimp only
  go_wp2_with fail
  refine bodyPost_ret (results_tct rfl _ _ cb _ rfl (run_loadVar_row _ cb 27 _ _ (0, 0) _ (hC3.set 0 _) Try.underlying27 rfl (by kernel_rfl))) rfl ?_
  exact RunPost.bad (k := 3) (hb13.setCell (by simp; omega) _)

set_option maxRecDepth 100000 in
set_option maxHeartbeats 4000000 in
theorem run_long (ops : List TOp) (s : ST) (recs : List TRecord) (ga so ra : Option Addr) (gcap scap rcap B : Nat) (w : World) (hB : B ≤ w.heap.size) (hx : SlA B 7 (ROp B) w ga gcap ops) (hs : StA w B so scap s) (hok : (gcheck ops).2 = 0) (hgd : goodS ops s = true) (hlong : 512 < recs.length) :
    Calls Try.prog 10 #[.agg #[.slice ga ops.length gcap], .agg #[.slice so s.length scap], .slice ra recs.length rcap] w (RunPost w ([], [], 2)) := by
  have hck := fun W (hW : Below w.heap.size w W) => gcheck_all ops gcap ga W B (Nat.le_trans hB hW.size) (imp_ops hx (hW.mono hB))
  have hgo := fun W (hW : Below w.heap.size w W) => good_any ops s ga so gcap scap B W (Nat.le_trans hB hW.size) (imp_ops hx (hW.mono hB)) (hs.imp' (hW.mono hB) (Nat.le_refl _))
  rw [hgd] at hgo
  obtain ⟨n, hn⟩ : ∃ n, n = ops.length := ⟨_, rfl⟩
  obtain ⟨sl, hsl⟩ : ∃ sl, sl = s.length := ⟨_, rfl⟩
  obtain ⟨m, hm⟩ : ∃ m, m = recs.length := ⟨_, rfl⟩
  obtain ⟨ep, hep⟩ : ∃ ep, ep = (gcheck ops).1 := ⟨_, rfl⟩
  obtain ⟨ec, hec⟩ : ∃ ec, ec = (gcheck ops).2 := ⟨_, rfl⟩
  rw [← hec] at hok
  rw [← hep, ← hec, ← hn] at hck
  rw [← hn, ← hsl, ← hm]
  replace hn := Lib.hid hn
  replace hsl := Lib.hid hsl
  replace hm := Lib.hid hm
  replace hep := Lib.hid hep
  replace hec := Lib.hid hec
  go_enter Try.func10, Try.ntmps10
  go_upto_region 1 with fail
  refine Code.wp_world ?_
  intro w1 hw1
  have hb1 : Below w.heap.size w w1 := by rw [hw1]; exact (by repeat (first | exact Below.refl _ _ | refine below_drewN ?_ _ | refine Below.drew ?_ | (refine Below.alloc ?_ (by simp; try omega) _)))
  have hG1 : Blk w1 w.heap.size #[.slice ga n gcap] 24 := by rw [hw1]; exact (((Blk.new _ _ _).alloc _).alloc _).alloc _
  have hS1 : Blk w1 (w.heap.size + 1) #[.slice so sl scap] 27 := by
    rw [hw1]
    have := (((Blk.new (w.alloc (.cells #[.slice ga n gcap] 24)) #[.slice so sl scap] 27)).alloc (.cells #[.slice ra m rcap] 28)).alloc (.cells #[.slice none 0 0] 27)
    rwa [World.size_alloc] at this
  have hR1 : Blk w1 (w.heap.size + 2) #[.slice ra m rcap] 28 := by
    rw [hw1]
    have := (Blk.new ((w.alloc (.cells #[.slice ga n gcap] 24)).alloc (.cells #[.slice so sl scap] 27)) #[.slice ra m rcap] 28).alloc (.cells #[.slice none 0 0] 27)
    rwa [World.size_alloc, World.size_alloc] at this
  have hC1 : Blk w1 (w.heap.size + 3) #[.slice none 0 0] 27 := by
    rw [hw1]
    have := Blk.new (((w.alloc (.cells #[.slice ga n gcap] 24)).alloc (.cells #[.slice so sl scap] 27)).alloc (.cells #[.slice ra m rcap] 28)) #[.slice none 0 0] 27
    rwa [World.size_alloc, World.size_alloc, World.size_alloc] at this
  obtain ⟨cb, hcb⟩ : ∃ cb, cb = w.heap.size + 3 := ⟨_, rfl⟩
  obtain ⟨rb, hrb⟩ : ∃ rb, rb = w.heap.size + 2 := ⟨_, rfl⟩
  obtain ⟨sb, hsb⟩ : ∃ sb, sb = w.heap.size + 1 := ⟨_, rfl⟩
  obtain ⟨gb, hgb⟩ : ∃ gb, gb = w.heap.size := ⟨_, rfl⟩
  have hcbl : w.heap.size ≤ cb := by omega
  have hgbl : w.heap.size ≤ gb := by omega
  have hsbl : w.heap.size ≤ sb := by omega
  have hrbl : w.heap.size ≤ rb := by omega
  have e3 : w.heap.size + 1 + 1 + 1 = cb := by omega
  have e2 : w.heap.size + 1 + 1 = rb := by omega
  rw [← hcb] at hC1
  rw [← hrb] at hR1
  rw [← hsb] at hS1
  rw [← hgb] at hG1
  try rw [e3]
  try rw [← hcb]
  try rw [e2]
  try rw [← hrb]
  rw [← hsb]
  rw [← hgb]
  have hne : gb ≠ cb ∧ sb ≠ cb ∧ rb ≠ cb ∧ gb ≠ sb := by omega
  replace hcb := Lib.hid hcb
  replace hrb := Lib.hid hrb
  replace hsb := Lib.hid hsb
  replace hgb := Lib.hid hgb
  clear hw1 e2 e3
  have g1 := hG1.cellAt (i := 0) (v := .slice ga n gcap) rfl
  have hck1 := hck w1 hb1
  replace hck1 := Lib.hid hck1
  clear hck
  rw [← hn.out, ← hsl.out] at hgo
  rw [← hm.out] at hlong
  go_wp2_with fail
  refine hck1.out.mono ?_
  rintro e w2 ⟨rfl, hb2⟩
  have hC2 := hC1.below hb2 hC1.lt
  have hG2 := hG1.below hb2 hG1.lt
  have hS2 := hS1.below hb2 hS1.lt
  have hR2 := hR1.below hb2 hR1.lt
  have hb12 := hb1.trans (hb2.mono hb1.size)
  clear hck1 hb2 g1 hG1 hS1 hR1 hC1 hb1
  have g2 := hG2.cellAt (i := 0) (v := .slice ga n gcap) rfl
  have s2 := hS2.cellAt (i := 0) (v := .slice so sl scap) rfl
  have hgo2 := hgo w2 hb12
  replace hgo2 := Lib.hid hgo2
  have d0 : ((ec : Int) != 0) = false := by simp [hok]
  have d1 : decide ((512 : Int) < (m : Int)) = true := by simp; omega
  replace hok := Lib.hid hok
  clear hgo
  dsimp only
  go_wp2_with fail
  refine hgo2.out.mono ?_
  rintro e w3 ⟨rfl, hb3⟩
  have hC3 := hC2.below hb3 hC2.lt
  have hR3 := hR2.below hb3 hR2.lt
  have hb13 := hb12.trans (hb3.mono hb12.size)
  clear hgo2 g2 s2
  have c0 := hC3.cellAt (i := 0) (v := .slice none 0 0) rfl
  have cf := hC3.frozen 0
  have r3 := hR3.cellAt (i := 0) (v := .slice ra m rcap) rfl
  dsimp only
  go_wp2_with fail
  refine bodyPost_ret (results_tct rfl _ _ cb _ rfl (run_loadVar_row _ cb 27 _ _ (0, 0) _ (hC3.set 0 _) Try.underlying27 rfl (by kernel_rfl))) rfl ?_
  exact RunPost.bad (k := 2) (hb13.setCell (by simp; omega) _)
end Go.Proofs.Ytbianedgogdeeaa
