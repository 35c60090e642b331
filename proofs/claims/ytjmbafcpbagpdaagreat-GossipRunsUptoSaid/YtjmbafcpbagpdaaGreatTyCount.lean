/- Reading of the Go type millrace/api.Count: written by wip/gentypes.py. -/
import Derived.Test.YtjmbafcpbagpdaaGreatTyReach
namespace Go.Proofs.YtjmbafcpbagpdaaGreat
open Go.RowKit Go.ChangeShapes Go.WideShapes
set_option linter.unusedVariables false
set_option maxRecDepth 100000

structure TCount where
  fS : TStamp
  fN : Int

def RCount (B : Nat) (w : World) (cs : List Value) (x : TCount) : Prop :=
  cs = [.int .i64 x.fS.fLoc, .int .i64 x.fS.fT.fEpoch, .int .i64 x.fS.fT.fRound, .int .i64 x.fN] ∧
    (Lit.int .i64 x.fS.fLoc).wf = true ∧
    (Lit.int .i64 x.fS.fT.fEpoch).wf = true ∧
    (Lit.int .i64 x.fS.fT.fRound).wf = true ∧
    (Lit.int .i64 x.fN).wf = true
theorem RCount.imp {B B' : Nat} {w w' : World} {cs : List Value} {x : TCount} (h : RCount B w cs x) (hb : Below B w w') (hB : B ≤ B') : RCount B' w' cs x := by
  obtain ⟨rfl, h0, h1, h2, h3⟩ := h
  exact ⟨rfl, h0, h1, h2, h3⟩
theorem RCount.at {B : Nat} {w : World} {x : TCount} {b off i : Nat} {cap : Nat} {xs : List TCount} (h : SlA B 4 (RCount B) w (some ⟨b, off, none⟩) cap xs) (hi : i < xs.length) (hx : xs[i] = x) :
    w.cell? ⟨b, off + i * 4, none⟩ = some (.int .i64 x.fS.fLoc) ∧
    w.cell? ⟨b, off + i * 4 + 1, none⟩ = some (.int .i64 x.fS.fT.fEpoch) ∧
    w.cell? ⟨b, off + i * 4 + 2, none⟩ = some (.int .i64 x.fS.fT.fRound) ∧
    w.cell? ⟨b, off + i * 4 + 3, none⟩ = some (.int .i64 x.fN) ∧
    (Lit.int .i64 x.fS.fLoc).wf = true ∧
    (Lit.int .i64 x.fS.fT.fEpoch).wf = true ∧
    (Lit.int .i64 x.fS.fT.fRound).wf = true ∧
    (Lit.int .i64 x.fN).wf = true := by
  obtain ⟨cs, _, hc, hr⟩ := h.get i hi
  rw [hx] at hr
  obtain ⟨rfl, h0, h1, h2, h3⟩ := hr
  exact ⟨by have := hc 0 (by omega); simpa [] using this, by have := hc 1 (by omega); simpa [Nat.add_assoc] using this, by have := hc 2 (by omega); simpa [Nat.add_assoc] using this, by have := hc 3 (by omega); simpa [Nat.add_assoc] using this, h0, h1, h2, h3⟩
theorem RCount.of_trod {H : Type} {enc : TypeId × Value → H} {spare : Nat → Bool} {held : Bool} {B : Nat} {w : World} {fuel : Nat} {cs : List Value} {x : DataW H × List MemPlace}
    (h : DataW.trod enc Tryz.prog w 0 spare held fuel 67 cs = some x) (hp : ∀ p ∈ x.2, p.block < B) : ∃ a, RCount B w cs a := by
  obtain ⟨ys, n, _, rfl, hl, hlen, hf⟩ := DataW.trod_struct Tryz.underlying67 h
  have hsz : Tryz.prog.cellsOf 67 = 4 := by kernel_rfl
  rw [hsz] at hl
  match cs, hl, ys, hlen, hf, hp with
  | [c0, c1, c2, c3], _, [y0, y1], _, hf, hp =>
    have g0 : DataW.trod enc Tryz.prog w 0 spare held n 59 (([c0, c1, c2, c3].drop 0).take (Tryz.prog.cellsOf 59)) = some y0 := hf 0 _ rfl
    rw [show Tryz.prog.cellsOf 59 = 3 by kernel_rfl] at g0
    have q0 : ∀ p ∈ y0.2, p.block < B := fun p hq => hp p (List.mem_flatMap.2 ⟨y0, by simp, hq⟩)
    obtain ⟨a0, r0⟩ := RStamp.of_trod g0 q0
    have g1 : DataW.trod enc Tryz.prog w 0 spare held n 3 (([c0, c1, c2, c3].drop 3).take (Tryz.prog.cellsOf 3)) = some y1 := hf 1 _ rfl
    rw [show Tryz.prog.cellsOf 3 = 1 by kernel_rfl] at g1
    have q1 : ∀ p ∈ y1.2, p.block < B := fun p hq => hp p (List.mem_flatMap.2 ⟨y1, by simp, hq⟩)
    obtain ⟨a1, r1⟩ := RI.of_trod Tryz.underlying3 g1
    obtain ⟨e0, w0_0, w0_1, w0_2⟩ := r0
    simp only [List.drop_zero, List.take_succ_cons, List.take_zero, List.cons.injEq, and_true] at e0
    obtain ⟨e1, w1⟩ := r1
    simp only [List.drop_succ_cons, List.drop_zero, List.take_succ_cons, List.take_zero, List.cons.injEq, and_true] at e1
    exact ⟨⟨a0, a1⟩, by simp [e0, e1], w0_0, w0_1, w0_2, w1⟩

end Go.Proofs.YtjmbafcpbagpdaaGreat
