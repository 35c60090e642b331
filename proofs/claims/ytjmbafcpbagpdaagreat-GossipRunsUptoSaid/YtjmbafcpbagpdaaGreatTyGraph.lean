/- Readings of the Go types millrace/api.Op, millrace/api.Graph: written by wip/gentypes.py. -/
import Derived.Test.YtjmbafcpbagpdaaGreatRows
import Derived.Test.YtjmbafcpbagpdaaGreatL1
namespace Go.Proofs.YtjmbafcpbagpdaaGreat
open Go.RowKit Go.ChangeShapes Go.WideShapes
set_option linter.unusedVariables false
set_option maxRecDepth 100000

structure TOp where
  fKind : Int
  fIn : (List Int)
  fArg : Int
  fNum : Int
  fRounds : Int
  fTest : Int
  fLim : Int

def ROp (B : Nat) (w : World) (cs : List Value) (x : TOp) : Prop :=
  ∃ (ao1 : Option Addr) (cap1 : Nat), cs = [.int .i64 x.fKind, .slice ao1 x.fIn.length cap1, .int .i64 x.fArg, .int .u32 x.fNum, .int .i64 x.fRounds, .int .i64 x.fTest, .int .u32 x.fLim] ∧
    (Lit.int .i64 x.fKind).wf = true ∧
    SlA B 1 (RI .i64) w ao1 cap1 x.fIn ∧
    (Lit.int .i64 x.fArg).wf = true ∧
    (Lit.int .u32 x.fNum).wf = true ∧
    (Lit.int .i64 x.fRounds).wf = true ∧
    (Lit.int .i64 x.fTest).wf = true ∧
    (Lit.int .u32 x.fLim).wf = true
theorem ROp.imp {B B' : Nat} {w w' : World} {cs : List Value} {x : TOp} (h : ROp B w cs x) (hb : Below B w w') (hB : B ≤ B') : ROp B' w' cs x := by
  obtain ⟨ao1, cap1, rfl, h0, h1, h2, h3, h4, h5, h6⟩ := h
  exact ⟨ao1, cap1, rfl, h0, h1.imp hb hB (fun cs x _ h => (fun _ _ h => h) cs x h), h2, h3, h4, h5, h6⟩
theorem ROp.at {B : Nat} {w : World} {x : TOp} {b off i : Nat} {cap : Nat} {xs : List TOp} (h : SlA B 7 (ROp B) w (some ⟨b, off, none⟩) cap xs) (hi : i < xs.length) (hx : xs[i] = x) :
    ∃ (ao1 : Option Addr) (cap1 : Nat), w.cell? ⟨b, off + i * 7, none⟩ = some (.int .i64 x.fKind) ∧
    w.cell? ⟨b, off + i * 7 + 1, none⟩ = some (.slice ao1 x.fIn.length cap1) ∧
    w.cell? ⟨b, off + i * 7 + 2, none⟩ = some (.int .i64 x.fArg) ∧
    w.cell? ⟨b, off + i * 7 + 3, none⟩ = some (.int .u32 x.fNum) ∧
    w.cell? ⟨b, off + i * 7 + 4, none⟩ = some (.int .i64 x.fRounds) ∧
    w.cell? ⟨b, off + i * 7 + 5, none⟩ = some (.int .i64 x.fTest) ∧
    w.cell? ⟨b, off + i * 7 + 6, none⟩ = some (.int .u32 x.fLim) ∧
    (Lit.int .i64 x.fKind).wf = true ∧
    SlA B 1 (RI .i64) w ao1 cap1 x.fIn ∧
    (Lit.int .i64 x.fArg).wf = true ∧
    (Lit.int .u32 x.fNum).wf = true ∧
    (Lit.int .i64 x.fRounds).wf = true ∧
    (Lit.int .i64 x.fTest).wf = true ∧
    (Lit.int .u32 x.fLim).wf = true := by
  obtain ⟨cs, _, hc, hr⟩ := h.get i hi
  rw [hx] at hr
  obtain ⟨ao1, cap1, rfl, h0, h1, h2, h3, h4, h5, h6⟩ := hr
  exact ⟨ao1, cap1, by have := hc 0 (by omega); simpa [] using this, by have := hc 1 (by omega); simpa [Nat.add_assoc] using this, by have := hc 2 (by omega); simpa [Nat.add_assoc] using this, by have := hc 3 (by omega); simpa [Nat.add_assoc] using this, by have := hc 4 (by omega); simpa [Nat.add_assoc] using this, by have := hc 5 (by omega); simpa [Nat.add_assoc] using this, by have := hc 6 (by omega); simpa [Nat.add_assoc] using this, h0, h1, h2, h3, h4, h5, h6⟩
theorem ROp.of_trod {H : Type} {enc : TypeId × Value → H} {spare : Nat → Bool} {held : Bool} {B : Nat} {w : World} {fuel : Nat} {cs : List Value} {x : DataW H × List MemPlace}
    (h : DataW.trod enc Tryz.prog w 0 spare held fuel 73 cs = some x) (hp : ∀ p ∈ x.2, p.block < B) : ∃ a, ROp B w cs a := by
  obtain ⟨ys, n, _, rfl, hl, hlen, hf⟩ := DataW.trod_struct Tryz.underlying73 h
  have hsz : Tryz.prog.cellsOf 73 = 7 := by kernel_rfl
  rw [hsz] at hl
  match cs, hl, ys, hlen, hf, hp with
  | [c0, c1, c2, c3, c4, c5, c6], _, [y0, y1, y2, y3, y4, y5, y6], _, hf, hp =>
    have g0 : DataW.trod enc Tryz.prog w 0 spare held n 3 (([c0, c1, c2, c3, c4, c5, c6].drop 0).take (Tryz.prog.cellsOf 3)) = some y0 := hf 0 _ rfl
    rw [show Tryz.prog.cellsOf 3 = 1 by kernel_rfl] at g0
    have q0 : ∀ p ∈ y0.2, p.block < B := fun p hq => hp p (List.mem_flatMap.2 ⟨y0, by simp, hq⟩)
    obtain ⟨a0, r0⟩ := RI.of_trod Tryz.underlying3 g0
    have g1 : DataW.trod enc Tryz.prog w 0 spare held n 70 (([c0, c1, c2, c3, c4, c5, c6].drop 1).take (Tryz.prog.cellsOf 70)) = some y1 := hf 1 _ rfl
    rw [show Tryz.prog.cellsOf 70 = 1 by kernel_rfl] at g1
    have q1 : ∀ p ∈ y1.2, p.block < B := fun p hq => hp p (List.mem_flatMap.2 ⟨y1, by simp, hq⟩)
    obtain ⟨a1, r1⟩ := RSl.of_trod (sz := 1) Tryz.underlying70 (by kernel_rfl) (by decide) g1 q1 (fun n cs y h hp => RI.of_trod Tryz.underlying3 h)
    have g2 : DataW.trod enc Tryz.prog w 0 spare held n 3 (([c0, c1, c2, c3, c4, c5, c6].drop 2).take (Tryz.prog.cellsOf 3)) = some y2 := hf 2 _ rfl
    rw [show Tryz.prog.cellsOf 3 = 1 by kernel_rfl] at g2
    have q2 : ∀ p ∈ y2.2, p.block < B := fun p hq => hp p (List.mem_flatMap.2 ⟨y2, by simp, hq⟩)
    obtain ⟨a2, r2⟩ := RI.of_trod Tryz.underlying3 g2
    have g3 : DataW.trod enc Tryz.prog w 0 spare held n 71 (([c0, c1, c2, c3, c4, c5, c6].drop 3).take (Tryz.prog.cellsOf 71)) = some y3 := hf 3 _ rfl
    rw [show Tryz.prog.cellsOf 71 = 1 by kernel_rfl] at g3
    have q3 : ∀ p ∈ y3.2, p.block < B := fun p hq => hp p (List.mem_flatMap.2 ⟨y3, by simp, hq⟩)
    obtain ⟨a3, r3⟩ := RI.of_trod Tryz.underlying71 g3
    have g4 : DataW.trod enc Tryz.prog w 0 spare held n 3 (([c0, c1, c2, c3, c4, c5, c6].drop 4).take (Tryz.prog.cellsOf 3)) = some y4 := hf 4 _ rfl
    rw [show Tryz.prog.cellsOf 3 = 1 by kernel_rfl] at g4
    have q4 : ∀ p ∈ y4.2, p.block < B := fun p hq => hp p (List.mem_flatMap.2 ⟨y4, by simp, hq⟩)
    obtain ⟨a4, r4⟩ := RI.of_trod Tryz.underlying3 g4
    have g5 : DataW.trod enc Tryz.prog w 0 spare held n 3 (([c0, c1, c2, c3, c4, c5, c6].drop 5).take (Tryz.prog.cellsOf 3)) = some y5 := hf 5 _ rfl
    rw [show Tryz.prog.cellsOf 3 = 1 by kernel_rfl] at g5
    have q5 : ∀ p ∈ y5.2, p.block < B := fun p hq => hp p (List.mem_flatMap.2 ⟨y5, by simp, hq⟩)
    obtain ⟨a5, r5⟩ := RI.of_trod Tryz.underlying3 g5
    have g6 : DataW.trod enc Tryz.prog w 0 spare held n 71 (([c0, c1, c2, c3, c4, c5, c6].drop 6).take (Tryz.prog.cellsOf 71)) = some y6 := hf 6 _ rfl
    rw [show Tryz.prog.cellsOf 71 = 1 by kernel_rfl] at g6
    have q6 : ∀ p ∈ y6.2, p.block < B := fun p hq => hp p (List.mem_flatMap.2 ⟨y6, by simp, hq⟩)
    obtain ⟨a6, r6⟩ := RI.of_trod Tryz.underlying71 g6
    obtain ⟨e0, w0⟩ := r0
    simp only [List.drop_zero, List.take_succ_cons, List.take_zero, List.cons.injEq, and_true] at e0
    obtain ⟨ao1, cap1, e1, w1⟩ := r1
    simp only [List.drop_succ_cons, List.drop_zero, List.take_succ_cons, List.take_zero, List.cons.injEq, and_true] at e1
    obtain ⟨e2, w2⟩ := r2
    simp only [List.drop_succ_cons, List.drop_zero, List.take_succ_cons, List.take_zero, List.cons.injEq, and_true] at e2
    obtain ⟨e3, w3⟩ := r3
    simp only [List.drop_succ_cons, List.drop_zero, List.take_succ_cons, List.take_zero, List.cons.injEq, and_true] at e3
    obtain ⟨e4, w4⟩ := r4
    simp only [List.drop_succ_cons, List.drop_zero, List.take_succ_cons, List.take_zero, List.cons.injEq, and_true] at e4
    obtain ⟨e5, w5⟩ := r5
    simp only [List.drop_succ_cons, List.drop_zero, List.take_succ_cons, List.take_zero, List.cons.injEq, and_true] at e5
    obtain ⟨e6, w6⟩ := r6
    simp only [List.drop_succ_cons, List.drop_zero, List.take_succ_cons, List.take_zero, List.cons.injEq, and_true] at e6
    exact ⟨⟨a0, a1, a2, a3, a4, a5, a6⟩, ao1, cap1, by simp [e0, e1, e2, e3, e4, e5, e6], w0, w1, w2, w3, w4, w5, w6⟩

structure TGraph where
  fOps : (List TOp)

def RGraph (B : Nat) (w : World) (cs : List Value) (x : TGraph) : Prop :=
  ∃ (ao0 : Option Addr) (cap0 : Nat), cs = [.slice ao0 x.fOps.length cap0] ∧
    SlA B 7 (ROp B) w ao0 cap0 x.fOps
theorem RGraph.imp {B B' : Nat} {w w' : World} {cs : List Value} {x : TGraph} (h : RGraph B w cs x) (hb : Below B w w') (hB : B ≤ B') : RGraph B' w' cs x := by
  obtain ⟨ao0, cap0, rfl, h0⟩ := h
  exact ⟨ao0, cap0, rfl, h0.imp hb hB (fun cs x _ h => (fun _ _ h => ROp.imp h hb hB) cs x h)⟩
theorem RGraph.at {B : Nat} {w : World} {x : TGraph} {b off i : Nat} {cap : Nat} {xs : List TGraph} (h : SlA B 1 (RGraph B) w (some ⟨b, off, none⟩) cap xs) (hi : i < xs.length) (hx : xs[i] = x) :
    ∃ (ao0 : Option Addr) (cap0 : Nat), w.cell? ⟨b, off + i, none⟩ = some (.slice ao0 x.fOps.length cap0) ∧
    SlA B 7 (ROp B) w ao0 cap0 x.fOps := by
  obtain ⟨cs, _, hc, hr⟩ := h.get i hi
  rw [hx] at hr
  obtain ⟨ao0, cap0, rfl, h0⟩ := hr
  exact ⟨ao0, cap0, by have := hc 0 (by omega); simpa [] using this, h0⟩
theorem RGraph.of_trod {H : Type} {enc : TypeId × Value → H} {spare : Nat → Bool} {held : Bool} {B : Nat} {w : World} {fuel : Nat} {cs : List Value} {x : DataW H × List MemPlace}
    (h : DataW.trod enc Tryz.prog w 0 spare held fuel 24 cs = some x) (hp : ∀ p ∈ x.2, p.block < B) : ∃ a, RGraph B w cs a := by
  obtain ⟨ys, n, _, rfl, hl, hlen, hf⟩ := DataW.trod_struct Tryz.underlying24 h
  have hsz : Tryz.prog.cellsOf 24 = 1 := by kernel_rfl
  rw [hsz] at hl
  match cs, hl, ys, hlen, hf, hp with
  | [c0], _, [y0], _, hf, hp =>
    have g0 : DataW.trod enc Tryz.prog w 0 spare held n 22 (([c0].drop 0).take (Tryz.prog.cellsOf 22)) = some y0 := hf 0 _ rfl
    rw [show Tryz.prog.cellsOf 22 = 1 by kernel_rfl] at g0
    have q0 : ∀ p ∈ y0.2, p.block < B := fun p hq => hp p (List.mem_flatMap.2 ⟨y0, by simp, hq⟩)
    obtain ⟨a0, r0⟩ := RSl.of_trod (sz := 7) Tryz.underlying22 (by kernel_rfl) (by decide) g0 q0 (fun n cs y h hp => ROp.of_trod h hp)
    obtain ⟨ao0, cap0, e0, w0⟩ := r0
    simp only [List.drop_zero, List.take_succ_cons, List.take_zero, List.cons.injEq, and_true] at e0
    exact ⟨⟨a0⟩, ao0, cap0, by simp [e0], w0⟩

end Go.Proofs.YtjmbafcpbagpdaaGreat
