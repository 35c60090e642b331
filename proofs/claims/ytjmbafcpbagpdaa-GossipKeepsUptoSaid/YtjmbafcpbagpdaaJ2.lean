/- Gossip: the plain model, and a gossip as it lies in memory. -/
import Derived.Test.YtjmbafcpbagpdaaJ1
import Derived.Test.YtjmbafcpbagpdaaJ0
import Derived.Test.YtjmbafcpbagpdaaPi
namespace Go.Proofs.Ytjmbafcpbagpdaa
open Go.RowKit Go.Shelf Go.Maps
set_option linter.unusedVariables false
set_option linter.unusedSimpArgs false

theorem chg_cutJ {B : Nat} {S : Nat → Prop} {w0 w w' : World} (h : Below B w0 w) (hB : w0.heap.size ≤ B) (hc : Chg S w w') : ∃ v, v.heap.size = w0.heap.size ∧ Chg S w0 v ∧ Below w0.heap.size v w' := by
  have hs : w0.heap.size ≤ w'.heap.size := Nat.le_trans h.size hc.size
  refine ⟨{ w' with heap := w'.heap.extract 0 w0.heap.size }, by simp; omega, ⟨hc.os.trans h.os, hc.tape.trans h.tape, hc.output.trans h.output, by simp; omega, fun i hi hn => ?_⟩, ⟨rfl, rfl, rfl, by simp; omega, fun i hi => ?_⟩⟩
  · have h1 := h.block i (by omega)
    have h2 := hc.block i (Nat.lt_of_lt_of_le hi h.size) hn
    rw [← h1, ← h2]
    simp only [Array.getElem?_extract]
    rw [if_pos (by omega)]
    simp
  · simp only [Array.getElem?_extract]
    rw [if_pos (by omega)]
    simp
/-- A tracker with these counts, N entries at most. -/
def TrF (w : World) (base tb : Nat) (x : TrX) (ops : List TOp) (c : CF) (N : Nat) : Prop := ∃ cs, Tr w base tb x ops cs ∧ cntC cs = c ∧ cs.length ≤ N
/-- What lies outside of a tracker changes. -/
theorem Tr.chgR {w w' : World} {base tb U : Nat} {x : TrX} {ops : List TOp} {cs : List (TStamp × Int)} (h : Tr w base tb x ops cs) {S : Nat → Prop} (hc : Chg S w w') (hS : ∀ k, S k → ¬ (base ≤ k ∧ k < U)) (ht : tb < U) (hm : x.mb < U) : Tr w' base tb x ops cs := by
  obtain ⟨w0, h1, h2, h3, h4, h5⟩ := h.held
  obtain ⟨v, hv1, hv2, hv3⟩ := chg_cutJ h5 (Nat.le_refl _) hc
  have hn : ∀ b, base ≤ b → b < U → ¬ S b := fun b hb hu hs => hS b hs ⟨hb, hu⟩
  have hc2 : Chg (fun k => S k ∧ k < w0.heap.size) w0 v := ⟨hv2.os, hv2.tape, hv2.output, hv2.size, fun k hk hne => hv2.block k hk (fun hs => hne ⟨hs, hk⟩)⟩
  have hn2 : ∀ b, base ≤ b → ¬ (S b ∧ b < w0.heap.size) := fun b hb hs => hn b hb (by omega) hs.1
  refine ⟨h.blk.chg hc (hn _ h.btb ht), ⟨v, h1.chg hc2 hn2, ⟨h2.hdr.chg hc2 (hn2 _ h2.hbase), h2.len, h2.hbase, fun j hj => ?_, h2.nodup⟩, by omega, by omega, by rw [← hv1] at hv3; exact hv3⟩, h.opsE, h.map.chg hc (hn _ h.bmb hm), h.nz, h.good, h.ok, h.btb, h.bmb⟩
  obtain ⟨e1, e2, e3⟩ := h2.rows j hj
  exact ⟨e1, e2, e3.chg hc2 (hn2 _ e1)⟩
theorem TrF.chgR {w w' : World} {base tb U : Nat} {x : TrX} {ops : List TOp} {c : CF} {N : Nat} (h : TrF w base tb x ops c N) {S : Nat → Prop} (hc : Chg S w w') (hS : ∀ k, S k → ¬ (base ≤ k ∧ k < U)) (ht : tb < U) (hm : x.mb < U) : TrF w' base tb x ops c N := by
  obtain ⟨cs, h1, h2, h3⟩ := h
  exact ⟨cs, h1.chgR hc hS ht hm, h2, h3⟩

def mkKJ (c : TCount) : Value := .agg #[.int .i64 c.fS.fLoc, .int .i64 c.fS.fT.fEpoch, .int .i64 c.fS.fT.fRound, .int .i64 c.fN]
def wfK (c : TCount) : Prop := wfS c.fS ∧ (Lit.int .i64 c.fN).wf = true
/-- A list of counts in memory of one's own, in blocks of X. -/
structure LiK (w : World) (U : Nat) (X : Nat → Prop) (v : Value) (l : List TCount) (M : Nat) : Prop where
  own : OwnL encK w U 57 4 v l
  inX : ∀ b, v.ownBlock = some b → X b
  wf : ∀ c ∈ l, wfK c
  len : l.length ≤ M
namespace LiK
variable {w w' : World} {U M : Nat} {X : Nat → Prop} {v : Value} {l : List TCount}
theorem chg {S : Nat → Prop} (h : LiK w U X v l M) (hc : Chg S w w') (hS : ∀ b, v.ownBlock = some b → ¬ S b) : LiK w' U X v l M := ⟨h.own.chg hc hS, h.inX, h.wf, h.len⟩
theorem sub {Y : Nat → Prop} (h : LiK w U X v l M) (hx : ∀ k, X k → Y k) : LiK w U Y v l M := ⟨h.own, fun b hb => hx b (h.inX b hb), h.wf, h.len⟩
theorem sla (h : LiK w U X v l M) : ∃ ao cap, v = .slice ao l.length cap ∧ SlA w.heap.size 4 (RCount w.heap.size) w ao cap l :=
  h.own.sla encK_len (fun c hc => by
    obtain ⟨⟨h1, h2, h3⟩, h4⟩ := h.wf c hc
    exact ⟨rfl, h1, h2, h3, h4⟩)
end LiK
/-- A row of such lists; it may lie behind the start of its block. -/
def WayV (w : World) (U : Nat) (X : Nat → Prop) (v : Value) (Ls : List (List TCount)) (M : Nat) : Prop :=
  (∀ b, v.ownBlock = some b → X b) ∧ ∃ ps : List (Value × List TCount), OffV w U 25 v (ps.map Prod.fst) ∧ ps.map Prod.snd = Ls ∧ ∀ q ∈ ps, LiK w U X q.1 q.2 M
namespace WayV
variable {w w' : World} {U M : Nat} {X : Nat → Prop} {v : Value} {Ls : List (List TCount)}
theorem nil (w : World) (U : Nat) (X : Nat → Prop) (M : Nat) : WayV w U X (.slice none 0 0) [] M := ⟨fun b hb => by simp [Value.ownBlock] at hb, [], OffV.nil _ _ _, rfl, by simp⟩
theorem chg {S : Nat → Prop} (h : WayV w U X v Ls M) (hc : Chg S w w') (hS : ∀ b, X b → ¬ S b) : WayV w' U X v Ls M := by
  obtain ⟨h0, ps, h1, h2, h3⟩ := h
  exact ⟨h0, ps, h1.chg hc (fun g hg => hS g (h0 g hg)), h2, fun q hq => (h3 q hq).chg hc (fun b hb => hS b ((h3 q hq).inX b hb))⟩
/-- Another row turns. -/
theorem chg2 {S : Nat → Prop} (h : WayV w U X v Ls M) (hc : Chg S w w') (hv : ∀ b, v.ownBlock = some b → ¬ S b) (hS : ∀ b, S b → ¬ ∃ cells, Blk w b cells 57) : WayV w' U X v Ls M := by
  obtain ⟨h0, ps, h1, h2, h3⟩ := h
  refine ⟨h0, ps, h1.chg hc hv, h2, fun q hq => (h3 q hq).chg hc (fun b hb hs => hS b hs ?_)⟩
  rcases (h3 q hq).own.form with ⟨e, _⟩ | ⟨g, cap, cells, e, h7, _⟩
  · rw [e] at hb; simp [Value.ownBlock] at hb
  · rw [e] at hb
    simp only [Value.ownBlock, Option.some.injEq] at hb
    subst hb
    exact ⟨_, h7⟩
theorem sub {Y : Nat → Prop} (h : WayV w U X v Ls M) (hx : ∀ k, X k → Y k) : WayV w U Y v Ls M := by
  obtain ⟨h0, ps, h1, h2, h3⟩ := h
  exact ⟨fun b hb => hx b (h0 b hb), ps, h1, h2, fun q hq => (h3 q hq).sub hx⟩
theorem slice (h : WayV w U X v Ls M) : ∃ ao cap, v = .slice ao Ls.length cap ∧ Ls.length ≤ cap ∧ cap ≤ maxLen := by
  obtain ⟨_, ps, h1, h2, _⟩ := h
  obtain ⟨ao, cap, e, h3, h4⟩ := h1.slice
  rw [← h2, List.length_map]
  rw [List.length_map] at e h3
  exact ⟨ao, cap, e, h3, h4⟩
theorem lt (h : WayV w U X v Ls M) : ∀ g, v.ownBlock = some g → U ≤ g ∧ g < w.heap.size := by
  obtain ⟨_, ps, h1, _⟩ := h
  exact h1.lt
end WayV

/-- Where a tracker's memory lies. -/
structure TrP where
  base : Nat
  tb : Nat
  U : Nat
  x : TrX
/-- Where a gossip's parts lie. -/
structure GP where
  gv : Value
  gops : List TOp
  gB : Nat
  gU : Nat
  tp : Nat → TrP
  vb : Nat
  vc : Nat
def TrI (w : World) (t : TrP) (ops : List TOp) (c : CF) (N : Nat) : Prop := TrF w t.base t.tb t.x ops c N ∧ t.tb < t.U ∧ t.x.mb < t.U
def GrI (w : World) (gv : Value) (gB gU : Nat) (ops : List TOp) : Prop := ∃ w0 ps, OpsR gB w0 gv ps ∧ ps.map (·.x) = ops ∧ w0.heap.size ≤ gU ∧ Below w0.heap.size w0 w
theorem GrI.chg {w w' : World} {gv : Value} {gB gU : Nat} {ops : List TOp} {S : Nat → Prop} (h : GrI w gv gB gU ops) (hc : Chg S w w') (hS : ∀ k, S k → ¬ (gB ≤ k ∧ k < gU)) : GrI w' gv gB gU ops := by
  obtain ⟨w0, ps, h1, h2, h3, h5⟩ := h
  obtain ⟨v, hv1, hv2, hv3⟩ := chg_cutJ h5 (Nat.le_refl _) hc
  have hc2 : Chg (fun k => S k ∧ k < w0.heap.size) w0 v := ⟨hv2.os, hv2.tape, hv2.output, hv2.size, fun k hk hne => hv2.block k hk (fun hs => hne ⟨hs, hk⟩)⟩
  exact ⟨v, ps, h1.chg hc2 (fun b hb hs => hS b hs.1 ⟨hb, by omega⟩), h2, by omega, by rw [← hv1] at hv3; exact hv3⟩
theorem GrI.sla {w : World} {gv : Value} {gB gU : Nat} {ops : List TOp} (h : GrI w gv gB gU ops) : ∃ ao cap, gv = .slice ao ops.length cap ∧ SlA w.heap.size 7 (ROp w.heap.size) w ao cap ops := by
  obtain ⟨w0, ps, h1, h2, h3, h5⟩ := h
  obtain ⟨ao, cap, e, h4⟩ := (h1.below h5 (Nat.le_refl _)).sla
  rw [h2] at h4
  exact ⟨ao, cap, by rw [e, ← h2, List.length_map], h4⟩
def gcells (p : GP) (n : Nat) (ws : List Value) : Array Value := (p.gv :: .pointer (some ⟨(p.tp 0).tb, 0, none⟩) :: .slice (some ⟨p.vb, 0, none⟩) n p.vc :: ws).toArray
/-- The ways' values. -/
structure Ways (w : World) (U : Nat) (X : Nat → Prop) (ws : List Value) (wy : Nat → List (List TCount)) (M : Nat) : Prop where
  len : ws.length = 64
  at' : ∀ i v, ws[i]? = some v → WayV w U X v (wy i) M
  ne : ∀ (i j : Nat) (v u : Value) (g : Nat), i ≠ j → ws[i]? = some v → ws[j]? = some u → v.ownBlock = some g → u.ownBlock ≠ some g
/-- Block gb is a gossip. -/
structure Gos (w : World) (A U : Nat) (X : Nat → Prop) (gb : Nat) (p : GP) (ops : List TOp) (m : GM) (N M : Nat) : Prop where
  n1 : 1 ≤ m.n
  n8 : m.n ≤ 8
  blk : ∃ ws, Blk w gb (gcells p m.n ws) 72 ∧ Ways w U X ws m.wy M
  vws : ∃ cs : Array Value, Blk w p.vb cs 41 ∧ m.n ≤ p.vc ∧ p.vc ≤ maxLen ∧ ∀ j, j < m.n → cs[j]? = some (.pointer (some ⟨(p.tp (j + 1)).tb, 0, none⟩))
  gr : GrI w p.gv p.gB p.gU p.gops
  trs : ∀ i, i ≤ m.n → TrI w (p.tp i) ops (m.c i) N
  dis : ∀ i j, i < j → j ≤ m.n → (p.tp i).U ≤ (p.tp j).base
  dg : ∀ i, i ≤ m.n → ¬ ((p.tp i).base ≤ gb ∧ gb < (p.tp i).U)
  dv : ∀ i, i ≤ m.n → ¬ ((p.tp i).base ≤ p.vb ∧ p.vb < (p.tp i).U)
  dgr : ¬ (p.gB ≤ gb ∧ gb < p.gU) ∧ ¬ (p.gB ≤ p.vb ∧ p.vb < p.gU) ∧ gb ≠ p.vb
  dtr : ∀ i, i ≤ m.n → (p.tp i).U ≤ p.gB
  inT : ∀ i, i ≤ m.n → A ≤ (p.tp i).base ∧ (p.tp i).U ≤ U
  inG : (A ≤ gb ∧ gb < U) ∧ (A ≤ p.vb ∧ p.vb < U) ∧ A ≤ p.gB ∧ p.gU ≤ U
  xU : ∀ k, X k → U ≤ k ∧ k < w.heap.size
  uw : U ≤ w.heap.size
  ok : (gcheck ops).2 = 0
/-- What a gossip's own calls may change. -/
def Foot (A U : Nat) (X : Nat → Prop) (k : Nat) : Prop := (A ≤ k ∧ k < U) ∨ X k
namespace Gos
variable {w w' : World} {A U gb N M : Nat} {X : Nat → Prop} {p : GP} {ops : List TOp} {m : GM}
theorem chg (h : Gos w A U X gb p ops m N M) {S : Nat → Prop} (hc : Chg S w w') (hS : ∀ k, S k → ¬ Foot A U X k) : Gos w' A U X gb p ops m N M := by
  have hA : ∀ k, S k → ¬ (A ≤ k ∧ k < U) := fun k hk hs => hS k hk (.inl hs)
  have hX : ∀ k, X k → ¬ S k := fun k hk hs => hS k hs (.inr hk)
  have hs := hc.size
  obtain ⟨ws, b1, b2⟩ := h.blk
  obtain ⟨cs, v1, v2⟩ := h.vws
  obtain ⟨g1, g2, g3, g4⟩ := h.inG
  refine ⟨h.n1, h.n8, ⟨ws, b1.chg hc (fun e => hA _ e g1), ⟨b2.len, fun i v hv => (b2.at' i v hv).chg hc hX, b2.ne⟩⟩, ⟨cs, v1.chg hc (fun e => hA _ e g2), v2⟩, h.gr.chg hc (fun k hk e => hA k hk ⟨by omega, by omega⟩), fun i hi => ?_, h.dis, h.dg, h.dv, h.dgr, h.dtr, h.inT, h.inG, fun k hk => ⟨(h.xU k hk).1, by have := (h.xU k hk).2; omega⟩, by have := h.uw; omega, h.ok⟩
  obtain ⟨t1, t2, t3⟩ := h.trs i hi
  have := h.inT i hi
  exact ⟨t1.chgR hc (fun k hk e => hA k hk ⟨by omega, by omega⟩) t2 t3, t2, t3⟩
theorem below (h : Gos w A U X gb p ops m N M) (hb : Below w.heap.size w w') : Gos w' A U X gb p ops m N M :=
  h.chg (Chg.of_below hb) (fun k hk e => by
    rcases e with e | e
    · have := h.uw; omega
    · have := (h.xU k e).2; omega)
theorem foot_lt (h : Gos w A U X gb p ops m N M) {k : Nat} (hk : Foot A U X k) : k < w.heap.size := by
  rcases hk with e | e
  · have := h.uw; omega
  · exact (h.xU k e).2
end Gos
end Go.Proofs.Ytjmbafcpbagpdaa
