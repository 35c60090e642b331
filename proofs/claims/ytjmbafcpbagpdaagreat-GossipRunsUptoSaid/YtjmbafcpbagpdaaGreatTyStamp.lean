/- Readings of the Go types millrace/api.Time: written by wip/gentypes.py. -/
import Derived.Test.YtjmbafcpbagpdaaGreatRows
import Derived.Test.YtjmbafcpbagpdaaGreatL1
namespace Go.Proofs.YtjmbafcpbagpdaaGreat
open Go.RowKit Go.ChangeShapes Go.WideShapes
set_option linter.unusedVariables false
set_option maxRecDepth 100000

structure TTime where
  fEpoch : Int
  fRound : Int

def RTime (B : Nat) (w : World) (cs : List Value) (x : TTime) : Prop :=
  cs = [.int .i64 x.fEpoch, .int .i64 x.fRound] ∧
    (Lit.int .i64 x.fEpoch).wf = true ∧
    (Lit.int .i64 x.fRound).wf = true
theorem RTime.imp {B B' : Nat} {w w' : World} {cs : List Value} {x : TTime} (h : RTime B w cs x) (hb : Below B w w') (hB : B ≤ B') : RTime B' w' cs x := by
  obtain ⟨rfl, h0, h1⟩ := h
  exact ⟨rfl, h0, h1⟩
theorem RTime.at {B : Nat} {w : World} {x : TTime} {b off i : Nat} {cap : Nat} {xs : List TTime} (h : SlA B 2 (RTime B) w (some ⟨b, off, none⟩) cap xs) (hi : i < xs.length) (hx : xs[i] = x) :
    w.cell? ⟨b, off + i * 2, none⟩ = some (.int .i64 x.fEpoch) ∧
    w.cell? ⟨b, off + i * 2 + 1, none⟩ = some (.int .i64 x.fRound) ∧
    (Lit.int .i64 x.fEpoch).wf = true ∧
    (Lit.int .i64 x.fRound).wf = true := by
  obtain ⟨cs, _, hc, hr⟩ := h.get i hi
  rw [hx] at hr
  obtain ⟨rfl, h0, h1⟩ := hr
  exact ⟨by have := hc 0 (by omega); simpa [] using this, by have := hc 1 (by omega); simpa [Nat.add_assoc] using this, h0, h1⟩
theorem RTime.of_trod {H : Type} {enc : TypeId × Value → H} {spare : Nat → Bool} {held : Bool} {B : Nat} {w : World} {fuel : Nat} {cs : List Value} {x : DataW H × List MemPlace}
    (h : DataW.trod enc Tryz.prog w 0 spare held fuel 57 cs = some x) (hp : ∀ p ∈ x.2, p.block < B) : ∃ a, RTime B w cs a := by
  obtain ⟨ys, n, _, rfl, hl, hlen, hf⟩ := DataW.trod_struct Tryz.underlying57 h
  have hsz : Tryz.prog.cellsOf 57 = 2 := by kernel_rfl
  rw [hsz] at hl
  match cs, hl, ys, hlen, hf, hp with
  | [c0, c1], _, [y0, y1], _, hf, hp =>
    have g0 : DataW.trod enc Tryz.prog w 0 spare held n 3 (([c0, c1].drop 0).take (Tryz.prog.cellsOf 3)) = some y0 := hf 0 _ rfl
    rw [show Tryz.prog.cellsOf 3 = 1 by kernel_rfl] at g0
    have q0 : ∀ p ∈ y0.2, p.block < B := fun p hq => hp p (List.mem_flatMap.2 ⟨y0, by simp, hq⟩)
    obtain ⟨a0, r0⟩ := RI.of_trod Tryz.underlying3 g0
    have g1 : DataW.trod enc Tryz.prog w 0 spare held n 3 (([c0, c1].drop 1).take (Tryz.prog.cellsOf 3)) = some y1 := hf 1 _ rfl
    rw [show Tryz.prog.cellsOf 3 = 1 by kernel_rfl] at g1
    have q1 : ∀ p ∈ y1.2, p.block < B := fun p hq => hp p (List.mem_flatMap.2 ⟨y1, by simp, hq⟩)
    obtain ⟨a1, r1⟩ := RI.of_trod Tryz.underlying3 g1
    obtain ⟨e0, w0⟩ := r0
    simp only [List.drop_zero, List.take_succ_cons, List.take_zero, List.cons.injEq, and_true] at e0
    obtain ⟨e1, w1⟩ := r1
    simp only [List.drop_succ_cons, List.drop_zero, List.take_succ_cons, List.take_zero, List.cons.injEq, and_true] at e1
    exact ⟨⟨a0, a1⟩, by simp [e0, e1], w0, w1⟩

end Go.Proofs.YtjmbafcpbagpdaaGreat
