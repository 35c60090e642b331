/- Readings of the Go types millrace/millracelaw04.Step, millrace/millracelaw04.Two: written by wip/gentypes.py. -/
import Derived.Test.YtjhbeahkojippaaRows
import Derived.Test.YtjhbeahkojippaaL1
namespace Go.Proofs.Ytjhbeahkojippaa
open Go.RowKit Go.ChangeShapes Go.WideShapes
set_option linter.unusedVariables false
set_option maxRecDepth 100000

structure TMillracelaw04Step where
  fKind : Int
  fName : ByteArray
  fAt : Int
  fData : (List Int)
  fPicks : (List Int)

def RMillracelaw04Step (B : Nat) (w : World) (cs : List Value) (x : TMillracelaw04Step) : Prop :=
  ∃ (ao3 : Option Addr) (cap3 : Nat) (ao4 : Option Addr) (cap4 : Nat), cs = [.int .i64 x.fKind, .string x.fName, .int .i64 x.fAt, .slice ao3 x.fData.length cap3, .slice ao4 x.fPicks.length cap4] ∧
    (Lit.int .i64 x.fKind).wf = true ∧
    x.fName.size ≤ maxLen ∧
    (Lit.int .i64 x.fAt).wf = true ∧
    SlA B 1 (RI .u8) w ao3 cap3 x.fData ∧
    SlA B 1 (RI .i64) w ao4 cap4 x.fPicks
theorem RMillracelaw04Step.imp {B B' : Nat} {w w' : World} {cs : List Value} {x : TMillracelaw04Step} (h : RMillracelaw04Step B w cs x) (hb : Below B w w') (hB : B ≤ B') : RMillracelaw04Step B' w' cs x := by
  obtain ⟨ao3, cap3, ao4, cap4, rfl, h0, h1, h2, h3, h4⟩ := h
  exact ⟨ao3, cap3, ao4, cap4, rfl, h0, h1, h2, h3.imp hb hB (fun cs x _ h => (fun _ _ h => h) cs x h), h4.imp hb hB (fun cs x _ h => (fun _ _ h => h) cs x h)⟩
theorem RMillracelaw04Step.at {B : Nat} {w : World} {x : TMillracelaw04Step} {b off i : Nat} {cap : Nat} {xs : List TMillracelaw04Step} (h : SlA B 5 (RMillracelaw04Step B) w (some ⟨b, off, none⟩) cap xs) (hi : i < xs.length) (hx : xs[i] = x) :
    ∃ (ao3 : Option Addr) (cap3 : Nat) (ao4 : Option Addr) (cap4 : Nat), w.cell? ⟨b, off + i * 5, none⟩ = some (.int .i64 x.fKind) ∧
    w.cell? ⟨b, off + i * 5 + 1, none⟩ = some (.string x.fName) ∧
    w.cell? ⟨b, off + i * 5 + 2, none⟩ = some (.int .i64 x.fAt) ∧
    w.cell? ⟨b, off + i * 5 + 3, none⟩ = some (.slice ao3 x.fData.length cap3) ∧
    w.cell? ⟨b, off + i * 5 + 4, none⟩ = some (.slice ao4 x.fPicks.length cap4) ∧
    (Lit.int .i64 x.fKind).wf = true ∧
    x.fName.size ≤ maxLen ∧
    (Lit.int .i64 x.fAt).wf = true ∧
    SlA B 1 (RI .u8) w ao3 cap3 x.fData ∧
    SlA B 1 (RI .i64) w ao4 cap4 x.fPicks := by
  obtain ⟨cs, _, hc, hr⟩ := h.get i hi
  rw [hx] at hr
  obtain ⟨ao3, cap3, ao4, cap4, rfl, h0, h1, h2, h3, h4⟩ := hr
  exact ⟨ao3, cap3, ao4, cap4, by have := hc 0 (by omega); simpa [] using this, by have := hc 1 (by omega); simpa [Nat.add_assoc] using this, by have := hc 2 (by omega); simpa [Nat.add_assoc] using this, by have := hc 3 (by omega); simpa [Nat.add_assoc] using this, by have := hc 4 (by omega); simpa [Nat.add_assoc] using this, h0, h1, h2, h3, h4⟩
theorem RMillracelaw04Step.of_trod {H : Type} {enc : TypeId × Value → H} {spare : Nat → Bool} {held : Bool} {B : Nat} {w : World} {fuel : Nat} {cs : List Value} {x : DataW H × List MemPlace}
    (h : DataW.trod enc Try.prog w 0 spare held fuel 47 cs = some x) (hp : ∀ p ∈ x.2, p.block < B) : ∃ a, RMillracelaw04Step B w cs a := by
  obtain ⟨ys, n, _, rfl, hl, hlen, hf⟩ := DataW.trod_struct Try.underlying47 h
  have hsz : Try.prog.cellsOf 47 = 5 := by kernel_rfl
  rw [hsz] at hl
  match cs, hl, ys, hlen, hf, hp with
  | [c0, c1, c2, c3, c4], _, [y0, y1, y2, y3, y4], _, hf, hp =>
    have g0 : DataW.trod enc Try.prog w 0 spare held n 3 (([c0, c1, c2, c3, c4].drop 0).take (Try.prog.cellsOf 3)) = some y0 := hf 0 _ rfl
    rw [show Try.prog.cellsOf 3 = 1 by kernel_rfl] at g0
    have q0 : ∀ p ∈ y0.2, p.block < B := fun p hq => hp p (List.mem_flatMap.2 ⟨y0, by simp, hq⟩)
    obtain ⟨a0, r0⟩ := RI.of_trod Try.underlying3 g0
    have g1 : DataW.trod enc Try.prog w 0 spare held n 9 (([c0, c1, c2, c3, c4].drop 1).take (Try.prog.cellsOf 9)) = some y1 := hf 1 _ rfl
    rw [show Try.prog.cellsOf 9 = 1 by kernel_rfl] at g1
    have q1 : ∀ p ∈ y1.2, p.block < B := fun p hq => hp p (List.mem_flatMap.2 ⟨y1, by simp, hq⟩)
    obtain ⟨a1, r1⟩ := RS.of_trod Try.underlying9 g1
    have g2 : DataW.trod enc Try.prog w 0 spare held n 3 (([c0, c1, c2, c3, c4].drop 2).take (Try.prog.cellsOf 3)) = some y2 := hf 2 _ rfl
    rw [show Try.prog.cellsOf 3 = 1 by kernel_rfl] at g2
    have q2 : ∀ p ∈ y2.2, p.block < B := fun p hq => hp p (List.mem_flatMap.2 ⟨y2, by simp, hq⟩)
    obtain ⟨a2, r2⟩ := RI.of_trod Try.underlying3 g2
    have g3 : DataW.trod enc Try.prog w 0 spare held n 23 (([c0, c1, c2, c3, c4].drop 3).take (Try.prog.cellsOf 23)) = some y3 := hf 3 _ rfl
    rw [show Try.prog.cellsOf 23 = 1 by kernel_rfl] at g3
    have q3 : ∀ p ∈ y3.2, p.block < B := fun p hq => hp p (List.mem_flatMap.2 ⟨y3, by simp, hq⟩)
    obtain ⟨a3, r3⟩ := RSl.of_trod (sz := 1) Try.underlying23 (by kernel_rfl) (by decide) g3 q3 (fun n cs y h hp => RI.of_trod Try.underlying5 h)
    have g4 : DataW.trod enc Try.prog w 0 spare held n 24 (([c0, c1, c2, c3, c4].drop 4).take (Try.prog.cellsOf 24)) = some y4 := hf 4 _ rfl
    rw [show Try.prog.cellsOf 24 = 1 by kernel_rfl] at g4
    have q4 : ∀ p ∈ y4.2, p.block < B := fun p hq => hp p (List.mem_flatMap.2 ⟨y4, by simp, hq⟩)
    obtain ⟨a4, r4⟩ := RSl.of_trod (sz := 1) Try.underlying24 (by kernel_rfl) (by decide) g4 q4 (fun n cs y h hp => RI.of_trod Try.underlying3 h)
    obtain ⟨e0, w0⟩ := r0
    simp only [List.drop_zero, List.take_succ_cons, List.take_zero, List.cons.injEq, and_true] at e0
    obtain ⟨e1, w1⟩ := r1
    simp only [List.drop_succ_cons, List.drop_zero, List.take_succ_cons, List.take_zero, List.cons.injEq, and_true] at e1
    obtain ⟨e2, w2⟩ := r2
    simp only [List.drop_succ_cons, List.drop_zero, List.take_succ_cons, List.take_zero, List.cons.injEq, and_true] at e2
    obtain ⟨ao3, cap3, e3, w3⟩ := r3
    simp only [List.drop_succ_cons, List.drop_zero, List.take_succ_cons, List.take_zero, List.cons.injEq, and_true] at e3
    obtain ⟨ao4, cap4, e4, w4⟩ := r4
    simp only [List.drop_succ_cons, List.drop_zero, List.take_succ_cons, List.take_zero, List.cons.injEq, and_true] at e4
    exact ⟨⟨a0, a1, a2, a3, a4⟩, ao3, cap3, ao4, cap4, by simp [e0, e1, e2, e3, e4], w0, w1, w2, w3, w4⟩

structure TMillracelaw04Two where
  fScript : (List TMillracelaw04Step)
  fName : ByteArray

def RMillracelaw04Two (B : Nat) (w : World) (cs : List Value) (x : TMillracelaw04Two) : Prop :=
  ∃ (ao0 : Option Addr) (cap0 : Nat), cs = [.slice ao0 x.fScript.length cap0, .string x.fName] ∧
    SlA B 5 (RMillracelaw04Step B) w ao0 cap0 x.fScript ∧
    x.fName.size ≤ maxLen
theorem RMillracelaw04Two.imp {B B' : Nat} {w w' : World} {cs : List Value} {x : TMillracelaw04Two} (h : RMillracelaw04Two B w cs x) (hb : Below B w w') (hB : B ≤ B') : RMillracelaw04Two B' w' cs x := by
  obtain ⟨ao0, cap0, rfl, h0, h1⟩ := h
  exact ⟨ao0, cap0, rfl, h0.imp hb hB (fun cs x _ h => (fun _ _ h => RMillracelaw04Step.imp h hb hB) cs x h), h1⟩
theorem RMillracelaw04Two.at {B : Nat} {w : World} {x : TMillracelaw04Two} {b off i : Nat} {cap : Nat} {xs : List TMillracelaw04Two} (h : SlA B 2 (RMillracelaw04Two B) w (some ⟨b, off, none⟩) cap xs) (hi : i < xs.length) (hx : xs[i] = x) :
    ∃ (ao0 : Option Addr) (cap0 : Nat), w.cell? ⟨b, off + i * 2, none⟩ = some (.slice ao0 x.fScript.length cap0) ∧
    w.cell? ⟨b, off + i * 2 + 1, none⟩ = some (.string x.fName) ∧
    SlA B 5 (RMillracelaw04Step B) w ao0 cap0 x.fScript ∧
    x.fName.size ≤ maxLen := by
  obtain ⟨cs, _, hc, hr⟩ := h.get i hi
  rw [hx] at hr
  obtain ⟨ao0, cap0, rfl, h0, h1⟩ := hr
  exact ⟨ao0, cap0, by have := hc 0 (by omega); simpa [] using this, by have := hc 1 (by omega); simpa [Nat.add_assoc] using this, h0, h1⟩
theorem RMillracelaw04Two.of_trod {H : Type} {enc : TypeId × Value → H} {spare : Nat → Bool} {held : Bool} {B : Nat} {w : World} {fuel : Nat} {cs : List Value} {x : DataW H × List MemPlace}
    (h : DataW.trod enc Try.prog w 0 spare held fuel 39 cs = some x) (hp : ∀ p ∈ x.2, p.block < B) : ∃ a, RMillracelaw04Two B w cs a := by
  obtain ⟨ys, n, _, rfl, hl, hlen, hf⟩ := DataW.trod_struct Try.underlying39 h
  have hsz : Try.prog.cellsOf 39 = 2 := by kernel_rfl
  rw [hsz] at hl
  match cs, hl, ys, hlen, hf, hp with
  | [c0, c1], _, [y0, y1], _, hf, hp =>
    have g0 : DataW.trod enc Try.prog w 0 spare held n 37 (([c0, c1].drop 0).take (Try.prog.cellsOf 37)) = some y0 := hf 0 _ rfl
    rw [show Try.prog.cellsOf 37 = 1 by kernel_rfl] at g0
    have q0 : ∀ p ∈ y0.2, p.block < B := fun p hq => hp p (List.mem_flatMap.2 ⟨y0, by simp, hq⟩)
    obtain ⟨a0, r0⟩ := RSl.of_trod (sz := 5) Try.underlying37 (by kernel_rfl) (by decide) g0 q0 (fun n cs y h hp => RMillracelaw04Step.of_trod h hp)
    have g1 : DataW.trod enc Try.prog w 0 spare held n 9 (([c0, c1].drop 1).take (Try.prog.cellsOf 9)) = some y1 := hf 1 _ rfl
    rw [show Try.prog.cellsOf 9 = 1 by kernel_rfl] at g1
    have q1 : ∀ p ∈ y1.2, p.block < B := fun p hq => hp p (List.mem_flatMap.2 ⟨y1, by simp, hq⟩)
    obtain ⟨a1, r1⟩ := RS.of_trod Try.underlying9 g1
    obtain ⟨ao0, cap0, e0, w0⟩ := r0
    simp only [List.drop_zero, List.take_succ_cons, List.take_zero, List.cons.injEq, and_true] at e0
    obtain ⟨e1, w1⟩ := r1
    simp only [List.drop_succ_cons, List.drop_zero, List.take_succ_cons, List.take_zero, List.cons.injEq, and_true] at e1
    exact ⟨⟨a0, a1⟩, ao0, cap0, by simp [e0, e1], w0, w1⟩

end Go.Proofs.Ytjhbeahkojippaa
