/- Readings of the Go types millrace/millracelaw19.Move: written by wip/gentypes.py. -/
import Derived.Test.YtjmbafcpbagpdaaGreatRows
import Derived.Test.YtjmbafcpbagpdaaGreatL1
import Derived.Test.YtjmbafcpbagpdaaGreatBulkG
import Derived.Test.YtjmbafcpbagpdaaGreatTyCount
namespace Go.Proofs.YtjmbafcpbagpdaaGreat
open Go.RowKit Go.ChangeShapes Go.WideShapes
set_option linter.unusedVariables false
set_option maxRecDepth 100000

structure TMillracelaw19Move where
  fKind : Int
  fWorker : Int
  fTo : Int
  fI : Int
  fWhich : Int

def RMillracelaw19Move (B : Nat) (w : World) (cs : List Value) (x : TMillracelaw19Move) : Prop :=
  cs = [.int .i64 x.fKind, .int .i64 x.fWorker, .int .i64 x.fTo, .int .i64 x.fI, .int .i64 x.fWhich] ∧
    (Lit.int .i64 x.fKind).wf = true ∧
    (Lit.int .i64 x.fWorker).wf = true ∧
    (Lit.int .i64 x.fTo).wf = true ∧
    (Lit.int .i64 x.fI).wf = true ∧
    (Lit.int .i64 x.fWhich).wf = true
theorem RMillracelaw19Move.imp {B B' : Nat} {w w' : World} {cs : List Value} {x : TMillracelaw19Move} (h : RMillracelaw19Move B w cs x) (hb : Below B w w') (hB : B ≤ B') : RMillracelaw19Move B' w' cs x := by
  obtain ⟨rfl, h0, h1, h2, h3, h4⟩ := h
  exact ⟨rfl, h0, h1, h2, h3, h4⟩
theorem RMillracelaw19Move.at {B : Nat} {w : World} {x : TMillracelaw19Move} {b off i : Nat} {cap : Nat} {xs : List TMillracelaw19Move} (h : SlA B 5 (RMillracelaw19Move B) w (some ⟨b, off, none⟩) cap xs) (hi : i < xs.length) (hx : xs[i] = x) :
    w.cell? ⟨b, off + i * 5, none⟩ = some (.int .i64 x.fKind) ∧
    w.cell? ⟨b, off + i * 5 + 1, none⟩ = some (.int .i64 x.fWorker) ∧
    w.cell? ⟨b, off + i * 5 + 2, none⟩ = some (.int .i64 x.fTo) ∧
    w.cell? ⟨b, off + i * 5 + 3, none⟩ = some (.int .i64 x.fI) ∧
    w.cell? ⟨b, off + i * 5 + 4, none⟩ = some (.int .i64 x.fWhich) ∧
    (Lit.int .i64 x.fKind).wf = true ∧
    (Lit.int .i64 x.fWorker).wf = true ∧
    (Lit.int .i64 x.fTo).wf = true ∧
    (Lit.int .i64 x.fI).wf = true ∧
    (Lit.int .i64 x.fWhich).wf = true := by
  obtain ⟨cs, _, hc, hr⟩ := h.get i hi
  rw [hx] at hr
  obtain ⟨rfl, h0, h1, h2, h3, h4⟩ := hr
  exact ⟨by have := hc 0 (by omega); simpa [] using this, by have := hc 1 (by omega); simpa [Nat.add_assoc] using this, by have := hc 2 (by omega); simpa [Nat.add_assoc] using this, by have := hc 3 (by omega); simpa [Nat.add_assoc] using this, by have := hc 4 (by omega); simpa [Nat.add_assoc] using this, h0, h1, h2, h3, h4⟩
end Go.Proofs.YtjmbafcpbagpdaaGreat

/- Gossip: a case as it comes in. -/
namespace Go.Proofs.YtjmbafcpbagpdaaGreat
open Go.RowKit Go.ChangeShapes Go.WideShapes
set_option linter.unusedVariables false
set_option linter.unusedSimpArgs false
set_option maxRecDepth 100000

structure TCaseG where
  ops : List TOp
  k : Int
  b : List TCount
def RCaseB (B : Nat) (w : World) (cs : List Value) (x : TCaseG) : Prop :=
  ∃ ao cap ba bc, cs = [.slice ao x.ops.length cap, .int .i64 x.k, .slice ba x.b.length bc] ∧ SlA B 7 (ROp B) w ao cap x.ops ∧ (∀ o ∈ x.ops, o.fIn.length ≤ 1048576) ∧ SlA B 4 (RCount B) w ba bc x.b ∧ x.b.length ≤ 1048576 ∧ (Lit.int .i64 x.k).wf = true
section
variable {H : Type} {enc : TypeId × Value → H} {held : Bool} {B : Nat} {w : World} {fuel : Nat} {cs : List Value} {x : DataW H × List MemPlace}
theorem countsJ (h : DataW.trod enc Tryz.prog w 0 (fun _ => true) held fuel 25 cs = some x) (hp : ∀ p ∈ x.2, p.block < B) (hw : Rows.uptoBulk x.1 ≤ 1048576) : ∃ a, RSl B 4 (RCount B) w cs a ∧ a.length ≤ 1048576 := by
  obtain ⟨a, ha⟩ := RSl.of_trod (B := B) (sz := 4) (E := RCount B) Tryz.underlying25 (by kernel_rfl) (by decide) h hp (fun n cs y h hp => RCount.of_trod h hp)
  refine ⟨a, ha, ?_⟩
  obtain ⟨ao, cap, rfl, hs⟩ := ha
  exact Nat.le_trans (trod_len_bulk Tryz.underlying25 h) hw
theorem case_bulk (h : DataW.trod enc Tryz.prog w 0 (fun _ => true) held fuel 27 cs = some x) (hp : ∀ p ∈ x.2, p.block < B) (hw : Rows.uptoBulk x.1 ≤ 1048576) : ∃ a, RCaseB B w cs a := by
  obtain ⟨ys, n, _, rfl, hl, hlen, hf⟩ := DataW.trod_struct Tryz.underlying27 h
  have hsz : Tryz.prog.cellsOf 27 = 3 := by kernel_rfl
  rw [hsz] at hl
  match cs, hl, ys, hlen, hf, hp with
  | [c0, c1, c2], _, [y0, y1, y2], _, hf, hp =>
    simp only [Rows.uptoBulk] at hw
    have g0 : DataW.trod enc Tryz.prog w 0 (fun _ => true) held n 24 (([c0, c1, c2].drop 0).take (Tryz.prog.cellsOf 24)) = some y0 := hf 0 _ rfl
    rw [show Tryz.prog.cellsOf 24 = 1 by kernel_rfl] at g0
    have q0 : ∀ p ∈ y0.2, p.block < B := fun p hq => hp p (List.mem_flatMap.2 ⟨y0, by simp, hq⟩)
    have b0 := bulk_part (d := y0.1) (l := [y0, y1, y2].map (·.1)) (by simp)
    obtain ⟨a0, r0, z0⟩ := graph_bulk g0 q0 (by omega)
    have g1 : DataW.trod enc Tryz.prog w 0 (fun _ => true) held n 3 (([c0, c1, c2].drop 1).take (Tryz.prog.cellsOf 3)) = some y1 := hf 1 _ rfl
    rw [show Tryz.prog.cellsOf 3 = 1 by kernel_rfl] at g1
    have q1 : ∀ p ∈ y1.2, p.block < B := fun p hq => hp p (List.mem_flatMap.2 ⟨y1, by simp, hq⟩)
    obtain ⟨a1, r1⟩ := RI.of_trod Tryz.underlying3 g1
    have g2 : DataW.trod enc Tryz.prog w 0 (fun _ => true) held n 25 (([c0, c1, c2].drop 2).take (Tryz.prog.cellsOf 25)) = some y2 := hf 2 _ rfl
    rw [show Tryz.prog.cellsOf 25 = 1 by kernel_rfl] at g2
    have q2 : ∀ p ∈ y2.2, p.block < B := fun p hq => hp p (List.mem_flatMap.2 ⟨y2, by simp, hq⟩)
    have b2 := bulk_part (d := y2.1) (l := [y0, y1, y2].map (·.1)) (by simp)
    obtain ⟨a2, r2, z2⟩ := countsJ g2 q2 (by omega)
    obtain ⟨ao, cap, e0, s0⟩ := r0
    obtain ⟨e1, w1⟩ := r1
    obtain ⟨ba, bc, e2, s2⟩ := r2
    simp only [List.drop_zero, List.take_succ_cons, List.take_zero, List.cons.injEq, and_true] at e0
    simp only [List.drop_succ_cons, List.drop_zero, List.take_succ_cons, List.take_zero, List.cons.injEq, and_true] at e1 e2
    exact ⟨⟨a0.fOps, a1, a2⟩, ao, cap, ba, bc, by rw [e0, e1, e2], s0, z0, s2, z2, w1⟩
end
end Go.Proofs.YtjmbafcpbagpdaaGreat
