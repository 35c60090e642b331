/- Operators of the call's own; the reference's CopyGraph and SameGraph: written by wip/tpl/genog.py out of the texts of the chapter entry. -/
import Derived.Test.YtjmbafcpbagpdaaGreatTyGraph
import Derived.Test.YtjmbafcpbagpdaaGreatL1
import Derived.Deep.QuietTactic
import Derived.BigQuiet
import Derived.Deep.Cut
import Derived.Deep.DeepCutAuto
import Derived.Deep.RegionHeld3
namespace Go.Proofs.YtjmbafcpbagpdaaGreat
open Go.RowKit
set_option linter.unusedVariables false
set_option linter.unusedSimpArgs false

/-- A row made here is a row of the call's own. -/
theorem OwnL.of_blk {α : Type} {enc : α → List Value} {w : World} {base g cap size : Nat} {e : TypeId} {cells : Array Value} {xs : List α} (h : Blk w g cells e) (hb : base ≤ g) (h1 : xs.length ≤ cap) (h2 : cap ≤ maxLen) (h3 : cells.size = cap * size)
    (h4 : cells.toList.take (xs.length * size) = xs.flatMap enc) (hk : (xs.flatMap enc).length = xs.length * size) : OwnL enc w base e size (.slice (some ⟨g, 0, none⟩) xs.length cap) xs :=
  ⟨hk, .inr ⟨g, cap, cells, rfl, hb, h, h1, h2, h3, h4⟩⟩

theorem below_alloc1 (w : World) (o : Obj) : Below w.heap.size w (w.alloc o) := Below.alloc (Below.refl _ _) (Nat.le_refl _) _

theorem in_imp {B : Nat} {w w' : World} {ao : Option Addr} {cap : Nat} {xs : List Int} (h : SlA B 1 (RI .i64) w ao cap xs) (hb : Below B w w') : SlA B 1 (RI .i64) w' ao cap xs := h.imp hb (Nat.le_refl _) (fun _ _ _ h => h)

theorem in_at {B : Nat} {w : World} {b off cap i : Nat} {xs : List Int} (h : SlA B 1 (RI .i64) w (some ⟨b, off, none⟩) cap xs) (hi : i < xs.length) {x : Int} (hx : xs[i] = x) : w.cell? ⟨b, off + i, none⟩ = some (.int .i64 x) ∧ (Lit.int .i64 x).wf = true := by
  obtain ⟨cs, _, hc, hr⟩ := h.get i hi
  rw [hx] at hr
  obtain ⟨rfl, h0⟩ := hr
  exact ⟨by have := hc 0 (by omega); simpa using this, h0⟩
/-- A slice whose block is one of D. -/
def SlP {α : Type} (D : Nat → Prop) (sz : Nat) (E : World → List Value → α → Prop) (w : World) (ao : Option Addr) (cap : Nat) (xs : List α) : Prop :=
  xs.length ≤ cap ∧ cap ≤ maxLen ∧ (ao = none → cap = 0) ∧
  (xs ≠ [] → ∃ b, ao = some ⟨b, 0, none⟩ ∧ D b ∧ (∃ cells T, Blk w b cells T ∧ xs.length * sz ≤ cells.size) ∧ ∀ i (_ : i < xs.length), ∃ cs : List Value, cs.length = sz ∧ (∀ j, j < sz → w.cell? ⟨b, i * sz + j, none⟩ = cs[j]?) ∧ E w cs xs[i])

theorem SlP.imp {α : Type} {D D' : Nat → Prop} {sz : Nat} {E E' : World → List Value → α → Prop} {w w' : World} {ao : Option Addr} {cap : Nat} {xs : List α} (h : SlP D sz E w ao cap xs)
    (hD : ∀ b, D b → D' b ∧ w'.heap[b]? = w.heap[b]?) (hE : ∀ cs x, x ∈ xs → E w cs x → E' w' cs x) : SlP D' sz E' w' ao cap xs := by
  obtain ⟨h1, h2, h3, h4⟩ := h
  refine ⟨h1, h2, h3, fun hne => ?_⟩
  obtain ⟨b, rfl, hb, ⟨cells, T, hk, hks⟩, h5⟩ := h4 hne
  refine ⟨b, rfl, (hD b hb).1, ⟨cells, T, (hD b hb).2.trans hk, hks⟩, fun i hi => ?_⟩
  obtain ⟨cs, h6, h7, h8⟩ := h5 i hi
  exact ⟨cs, h6, fun j hj => by rw [World.cell?_of_block (w := w) (a := ⟨b, _, none⟩) (hD b hb).2]; exact h7 j hj, hE _ _ (List.getElem_mem _) h8⟩
structure POp where
  x : TOp
  ao : Option Addr
  cap : Nat

def encO (p : POp) : List Value := [.int .i64 p.x.fKind, .slice p.ao p.x.fIn.length p.cap, .int .i64 p.x.fArg, .int .u32 p.x.fNum, .int .i64 p.x.fRounds, .int .i64 p.x.fTest, .int .u32 p.x.fLim]

theorem encO_len (p : POp) : (encO p).length = 7 := rfl

theorem encO_one (p : POp) : ∀ u ∈ encO p, u.oneCell' = true := by
  intro u hu
  unfold encO at hu
  simp only [List.mem_cons, List.not_mem_nil, or_false] at hu
  rcases hu with rfl | rfl | rfl | rfl | rfl | rfl | rfl <;> rfl

def wfO (o : TOp) : Prop := (Lit.int IntKind.i64 o.fKind).wf = true ∧ (∀ n ∈ o.fIn, (Lit.int IntKind.i64 n).wf = true) ∧ (Lit.int IntKind.i64 o.fArg).wf = true ∧ (Lit.int IntKind.u32 o.fNum).wf = true ∧ (Lit.int IntKind.i64 o.fRounds).wf = true ∧ (Lit.int IntKind.i64 o.fTest).wf = true ∧ (Lit.int IntKind.u32 o.fLim).wf = true

/-- An operator's inputs lie in a block of D. -/
def InP (D : Nat → Prop) (w : World) (p : POp) : Prop := wfO p.x ∧ SlP D 1 (RI .i64) w p.ao p.cap p.x.fIn

theorem InP.imp {D D' : Nat → Prop} {w w' : World} {p : POp} (h : InP D w p) (hD : ∀ b, D b → D' b ∧ w'.heap[b]? = w.heap[b]?) : InP D' w' p := ⟨h.1, h.2.imp hD (fun _ _ _ h => h)⟩

/-- Operators of the call's own: the row lies in blocks from base on, the inputs in others of them. -/
def OpsR (base : Nat) (w : World) (v : Value) (ps : List POp) : Prop :=
  OwnL encO w base 73 7 v ps ∧ ∀ p ∈ ps, InP (fun b => base ≤ b ∧ b < w.heap.size ∧ v.ownBlock ≠ some b) w p

theorem OpsR.nil (base : Nat) (w : World) : OpsR base w (.slice none 0 0) [] := ⟨OwnL.nil _ _ _ _ _, by simp⟩

theorem OpsR.chg {base : Nat} {w w' : World} {v : Value} {ps : List POp} {S : Nat → Prop} (h : OpsR base w v ps) (hc : Chg S w w') (hS : ∀ b, base ≤ b → ¬ S b) : OpsR base w' v ps :=
  ⟨h.1.chg hc (fun g hg => hS g (h.1.lt g hg).1), fun p hp => (h.2 p hp).imp fun b hb => ⟨⟨hb.1, Nat.lt_of_lt_of_le hb.2.1 hc.size, hb.2.2⟩, hc.block b hb.2.1 (hS b hb.1)⟩⟩

theorem SlP.sla {α : Type} {D : Nat → Prop} {sz B : Nat} {E : World → List Value → α → Prop} {w : World} {ao : Option Addr} {cap : Nat} {xs : List α} (h : SlP D sz E w ao cap xs) (hD : ∀ b, D b → b < B) : SlA B sz E w ao cap xs :=
  ⟨h.1, h.2.1, h.2.2.1, fun hne => by
    obtain ⟨b, e, hb, _, h7⟩ := h.2.2.2 hne
    refine ⟨b, 0, e, hD b hb, fun i hi => ?_⟩
    obtain ⟨cs, h8, h9, h10⟩ := h7 i hi
    exact ⟨cs, h8, fun j hj => by rw [Nat.zero_add]; exact h9 j hj, h10⟩⟩

theorem OpsR.sla {base : Nat} {w : World} {v : Value} {ps : List POp} (h : OpsR base w v ps) : ∃ ao cap, v = .slice ao ps.length cap ∧ SlA w.heap.size 7 (ROp w.heap.size) w ao cap (ps.map (·.x)) := by
  obtain ⟨hown, hin⟩ := h
  rcases hown.form with ⟨h1, rfl⟩ | ⟨g, cap, cells, h1, h2, h3, h4, h5, h6, h7, h8⟩
  · exact ⟨none, 0, h1, SlA.nil _ _ _ _⟩
  · refine ⟨_, cap, h1, SlA.of_blk h2 h2.lt (by simpa using h3) h4 fun i hi => ?_⟩
    have hi2 : i < ps.length := by simpa using hi
    refine ⟨encO ps[i], rfl, fun j hj => ?_, ?_⟩
    · rw [← flat_at encO_len ps i j hi2 hj, ← h8, List.getElem?_take, if_pos (by omega)]
      simp
    · have hp := hin _ (List.getElem_mem hi2)
      obtain ⟨⟨w1, w2, w3, w4, w5, w6, w7⟩, hs⟩ := hp
      rw [List.getElem_map]
      exact ⟨_, _, rfl, w1, hs.sla (fun b hb => hb.2.1), w3, w4, w5, w6, w7⟩

theorem blk7 {w : World} {b : Nat} {v0 v1 v2 v3 v4 v5 v6 : Value} {T : TypeId} (h : Blk w b #[v0, v1, v2, v3, v4, v5, v6] T) :
    w.cell? ⟨b, 0, none⟩ = some v0 ∧ w.cell? ⟨b, 1, none⟩ = some v1 ∧ w.cell? ⟨b, 2, none⟩ = some v2 ∧ w.cell? ⟨b, 3, none⟩ = some v3 ∧ w.cell? ⟨b, 4, none⟩ = some v4 ∧ w.cell? ⟨b, 5, none⟩ = some v5 ∧ w.cell? ⟨b, 6, none⟩ = some v6 :=
  ⟨h.cellAt rfl, h.cellAt rfl, h.cellAt rfl, h.cellAt rfl, h.cellAt rfl, h.cellAt rfl, h.cellAt rfl⟩

theorem infoO : (Tryz.prog.info? 73).map (fun i => (i.zero, i.size, i.bytes)) = some (some (.agg #[.int .i64 0, .slice none 0 0, .int .i64 0, .int .u32 0, .int .i64 0, .int .i64 0, .int .u32 0]), 7, 72) := by kernel_rfl

theorem infoN : (Tryz.prog.info? 3).map (fun i => (i.zero, i.size, i.bytes)) = some (some (.int .i64 0), 1, 8) := by kernel_rfl

def encN (n : Int) : List Value := [.int .i64 n]

theorem encN_len (n : Int) : (encN n).length = 1 := rfl

theorem encN_one (n : Int) : ∀ u ∈ encN n, u.oneCell' = true := by
  intro u hu
  obtain rfl : u = .int .i64 n := by simpa [encN] using hu
  rfl

theorem SlP.of_ints {base : Nat} {D : Nat → Prop} {w : World} {v : Value} {xs : List Int} (h : OwnL encN w base 3 1 v xs) (hwf : ∀ n ∈ xs, (Lit.int IntKind.i64 n).wf = true) (hD : ∀ g, v.ownBlock = some g → D g) :
    ∃ ao cap, v = .slice ao xs.length cap ∧ SlP D 1 (RI .i64) w ao cap xs := by
  rcases h.form with ⟨h1, rfl⟩ | ⟨g, cap, cells, h1, h2, h3, h4, h5, h6, h7, h8⟩
  · exact ⟨none, 0, h1, ⟨Nat.le_refl _, by unfold maxLen; omega, fun _ => rfl, fun h => absurd rfl h⟩⟩
  · refine ⟨_, cap, h1, ⟨h3, h4, by simp, fun _ => ⟨g, rfl, hD g (by rw [h1]; rfl), ⟨cells, _, h2, by rw [h5]; exact Nat.mul_le_mul_right 1 h3⟩, fun i hi => ?_⟩⟩⟩
    refine ⟨encN xs[i], rfl, fun j hj => ?_, rfl, hwf _ (List.getElem_mem hi)⟩
    rw [h2.cell, ← flat_at encN_len xs i j hi hj, ← h8, List.getElem?_take, if_pos (by omega)]
    simp

theorem OpsR.snoc {base g cap n : Nat} {S : Nat → Prop} {w0 w6 w7 : World} {v : Value} {ps : List POp} {p : POp} (h : OpsR base w0 v ps) (hb : base ≤ w0.heap.size) (hc : Chg S w0 w6) (hS : ∀ b, base ≤ b → ¬ S b)
    (hown : OwnL encO w7 base 73 7 (.slice (some ⟨g, 0, none⟩) (n + 1) cap) (ps ++ [p])) (hgr : Grew w6 v w7 (.slice (some ⟨g, 0, none⟩) (n + 1) cap))
    (hp : InP (fun b => w0.heap.size ≤ b ∧ b < w6.heap.size) w6 p) : OpsR base w7 (.slice (some ⟨g, 0, none⟩) (n + 1) cap) (ps ++ [p]) := by
  refine ⟨hown, fun q hq => ?_⟩
  have hs6 := hc.size
  have hs7 := hgr.grown.size
  have hplace : ∀ b, b < w6.heap.size → v.ownBlock ≠ some b → (Value.slice (some ⟨g, 0, none⟩) (n + 1) cap).ownBlock ≠ some b := fun b hb hbo h => by
    rcases hgr.place with e | ⟨g', e, hg'⟩
    · rw [e] at h; exact hbo h
    · rw [e] at h; cases h; omega
  rcases List.mem_append.1 hq with hq | hq
  · refine (h.2 q hq).imp fun b hb => ⟨⟨hb.1, by omega, hplace b (by omega) hb.2.2⟩, ?_⟩
    rw [hgr.grown.block b (by omega) (Ne.symm hb.2.2)]
    exact hc.block b hb.2.1 (hS b hb.1)
  · obtain rfl : q = p := by simpa using hq
    have hbo : ∀ b, w0.heap.size ≤ b → v.ownBlock ≠ some b := fun b hb h' => by have := (h.1.lt b h').2; omega
    exact hp.imp fun b hb' => ⟨⟨by omega, by omega, hplace b hb'.2 (hbo b hb'.1)⟩, hgr.grown.block b hb'.2 (Ne.symm (hbo b hb'.1))⟩
theorem OpsR.base_le {b b' : Nat} {w : World} {v : Value} {ps : List POp} (h : OpsR b w v ps) (hb : b' ≤ b) : OpsR b' w v ps :=
  ⟨h.1.base_le hb, fun p hp => (h.2 p hp).imp fun k hk => ⟨⟨by omega, hk.2⟩, rfl⟩⟩

theorem OpsR.below {b B : Nat} {w w' : World} {v : Value} {ps : List POp} (h : OpsR b w v ps) (hb : Below B w w') (hB : w.heap.size ≤ B) : OpsR b w' v ps :=
  ⟨h.1.below hb hB, fun p hp => (h.2 p hp).imp fun k hk => ⟨⟨hk.1, Nat.lt_of_lt_of_le hk.2.1 hb.size, hk.2.2⟩, hb.block k (Nat.lt_of_lt_of_le hk.2.1 hB)⟩⟩
/-- The state of CopyGraph's loop. -/
structure CS (w wr : World) (ab rb ob : Nat) (va v : Value) : Prop where
  bel : Below w.heap.size w wr
  ha : Blk wr ab #[va] 24
  hr : Blk wr rb #[.slice none 0 0] 24
  ho : Blk wr ob #[v] 24
  o1 : w.heap.size ≤ ab
  o2 : ab < rb
  o3 : rb < ob

theorem CS.below {w wr u : World} {ab rb ob : Nat} {va v : Value} (h : CS w wr ab rb ob va v) (hb : Below wr.heap.size wr u) : CS w u ab rb ob va v :=
  ⟨h.bel.trans (hb.mono h.bel.size), h.ha.below hb h.ha.lt, h.hr.below hb h.hr.lt, h.ho.below hb h.ho.lt, h.o1, h.o2, h.o3⟩

theorem CS.chg {w u u' : World} {ab rb ob : Nat} {va v : Value} {S : Nat → Prop} (h : CS w u ab rb ob va v) (hc : Chg S u u') (hS : ∀ k, k ≤ ob → ¬ S k) : CS w u' ab rb ob va v := by
  obtain ⟨hb, ha, hr, ho, o1, o2, o3⟩ := h
  exact ⟨hb.trans (hc.below hb.size (fun k hk => hS _ (by omega))), ha.chg hc (hS _ (by omega)), hr.chg hc (hS _ (by omega)), ho.chg hc (hS _ (Nat.le_refl _)), o1, o2, o3⟩

theorem CS.set {w u : World} {ab rb ob : Nat} {va v y : Value} (h : CS w u ab rb ob va v) : CS w (u.setCell ⟨ob, 0, none⟩ y) ab rb ob va y := by
  obtain ⟨hb, ha, hr, ho, o1, o2, o3⟩ := h
  exact ⟨hb.setCell (by simp; omega) _, ha.set_other (by simp; omega) _, hr.set_other (by simp; omega) _, ho.set 0 y, o1, o2, o3⟩

theorem ints_sla {B cap : Nat} {w : World} {ao : Option Addr} {xs : List Int} (h : SlA B 1 (RI .i64) w ao cap xs) : SlA B 1 (fun _ cs x => cs = encN x) w ao cap xs :=
  h.imp (Below.refl _ _) (Nat.le_refl _) (fun cs x _ h => h.1)

end Go.Proofs.YtjmbafcpbagpdaaGreat
