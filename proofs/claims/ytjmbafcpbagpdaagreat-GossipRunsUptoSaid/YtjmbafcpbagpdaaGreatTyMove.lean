/- Readings of the Go types millrace/millracelaw18.Move: written by wip/gentypes.py. -/
import Derived.Test.YtjmbafcpbagpdaaGreatRows
import Derived.Test.YtjmbafcpbagpdaaGreatL1
namespace Go.Proofs.YtjmbafcpbagpdaaGreat
open Go.RowKit Go.ChangeShapes Go.WideShapes
set_option linter.unusedVariables false
set_option maxRecDepth 100000

structure TMillracelaw18Move where
  fI : Int
  fWhich : Int

def RMillracelaw18Move (B : Nat) (w : World) (cs : List Value) (x : TMillracelaw18Move) : Prop :=
  cs = [.int .i64 x.fI, .int .i64 x.fWhich] ∧
    (Lit.int .i64 x.fI).wf = true ∧
    (Lit.int .i64 x.fWhich).wf = true
theorem RMillracelaw18Move.imp {B B' : Nat} {w w' : World} {cs : List Value} {x : TMillracelaw18Move} (h : RMillracelaw18Move B w cs x) (hb : Below B w w') (hB : B ≤ B') : RMillracelaw18Move B' w' cs x := by
  obtain ⟨rfl, h0, h1⟩ := h
  exact ⟨rfl, h0, h1⟩
theorem RMillracelaw18Move.at {B : Nat} {w : World} {x : TMillracelaw18Move} {b off i : Nat} {cap : Nat} {xs : List TMillracelaw18Move} (h : SlA B 2 (RMillracelaw18Move B) w (some ⟨b, off, none⟩) cap xs) (hi : i < xs.length) (hx : xs[i] = x) :
    w.cell? ⟨b, off + i * 2, none⟩ = some (.int .i64 x.fI) ∧
    w.cell? ⟨b, off + i * 2 + 1, none⟩ = some (.int .i64 x.fWhich) ∧
    (Lit.int .i64 x.fI).wf = true ∧
    (Lit.int .i64 x.fWhich).wf = true := by
  obtain ⟨cs, _, hc, hr⟩ := h.get i hi
  rw [hx] at hr
  obtain ⟨rfl, h0, h1⟩ := hr
  exact ⟨by have := hc 0 (by omega); simpa [] using this, by have := hc 1 (by omega); simpa [Nat.add_assoc] using this, h0, h1⟩
end Go.Proofs.YtjmbafcpbagpdaaGreat
