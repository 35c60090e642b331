/- Readings of the Go types millrace/api.Pair, millrace/api.State, millrace/api.Record: written by wip/gentypes.py. -/
import Derived.Test.YtbianedgogdeeaaRows
import Derived.Test.YtbianedgogdeeaaL1
namespace Go.Proofs.Ytbianedgogdeeaa
open Go.RowKit Go.ChangeShapes Go.WideShapes
set_option linter.unusedVariables false
set_option maxRecDepth 100000

structure TPair where
  fKey : ByteArray
  fVal : Int

def RPair (B : Nat) (w : World) (cs : List Value) (x : TPair) : Prop :=
  cs = [.string x.fKey, .int .u32 x.fVal] ∧
    x.fKey.size ≤ maxLen ∧
    (Lit.int .u32 x.fVal).wf = true
theorem RPair.imp {B B' : Nat} {w w' : World} {cs : List Value} {x : TPair} (h : RPair B w cs x) (hb : Below B w w') (hB : B ≤ B') : RPair B' w' cs x := by
  obtain ⟨rfl, h0, h1⟩ := h
  exact ⟨rfl, h0, h1⟩
theorem RPair.at {B : Nat} {w : World} {x : TPair} {b off i : Nat} {cap : Nat} {xs : List TPair} (h : SlA B 2 (RPair B) w (some ⟨b, off, none⟩) cap xs) (hi : i < xs.length) (hx : xs[i] = x) :
    w.cell? ⟨b, off + i * 2, none⟩ = some (.string x.fKey) ∧
    w.cell? ⟨b, off + i * 2 + 1, none⟩ = some (.int .u32 x.fVal) ∧
    x.fKey.size ≤ maxLen ∧
    (Lit.int .u32 x.fVal).wf = true := by
  obtain ⟨cs, _, hc, hr⟩ := h.get i hi
  rw [hx] at hr
  obtain ⟨rfl, h0, h1⟩ := hr
  exact ⟨by have := hc 0 (by omega); simpa [] using this, by have := hc 1 (by omega); simpa [Nat.add_assoc] using this, h0, h1⟩
theorem RPair.of_trod {H : Type} {enc : TypeId × Value → H} {spare : Nat → Bool} {held : Bool} {B : Nat} {w : World} {fuel : Nat} {cs : List Value} {x : DataW H × List MemPlace}
    (h : DataW.trod enc Try.prog w 0 spare held fuel 53 cs = some x) (hp : ∀ p ∈ x.2, p.block < B) : ∃ a, RPair B w cs a := by
  obtain ⟨ys, n, _, rfl, hl, hlen, hf⟩ := DataW.trod_struct Try.underlying53 h
  have hsz : Try.prog.cellsOf 53 = 2 := by kernel_rfl
  rw [hsz] at hl
  match cs, hl, ys, hlen, hf, hp with
  | [c0, c1], _, [y0, y1], _, hf, hp =>
    have g0 : DataW.trod enc Try.prog w 0 spare held n 9 (([c0, c1].drop 0).take (Try.prog.cellsOf 9)) = some y0 := hf 0 _ rfl
    rw [show Try.prog.cellsOf 9 = 1 by kernel_rfl] at g0
    have q0 : ∀ p ∈ y0.2, p.block < B := fun p hq => hp p (List.mem_flatMap.2 ⟨y0, by simp, hq⟩)
    obtain ⟨a0, r0⟩ := RS.of_trod Try.underlying9 g0
    have g1 : DataW.trod enc Try.prog w 0 spare held n 45 (([c0, c1].drop 1).take (Try.prog.cellsOf 45)) = some y1 := hf 1 _ rfl
    rw [show Try.prog.cellsOf 45 = 1 by kernel_rfl] at g1
    have q1 : ∀ p ∈ y1.2, p.block < B := fun p hq => hp p (List.mem_flatMap.2 ⟨y1, by simp, hq⟩)
    obtain ⟨a1, r1⟩ := RI.of_trod Try.underlying45 g1
    obtain ⟨e0, w0⟩ := r0
    simp only [List.drop_zero, List.take_succ_cons, List.take_zero, List.cons.injEq, and_true] at e0
    obtain ⟨e1, w1⟩ := r1
    simp only [List.drop_succ_cons, List.drop_zero, List.take_succ_cons, List.take_zero, List.cons.injEq, and_true] at e1
    exact ⟨⟨a0, a1⟩, by simp [e0, e1], w0, w1⟩

structure TState where
  fFolds : (List (List TPair))

def RState (B : Nat) (w : World) (cs : List Value) (x : TState) : Prop :=
  ∃ (ao0 : Option Addr) (cap0 : Nat), cs = [.slice ao0 x.fFolds.length cap0] ∧
    SlA B 1 (RSl B 2 (RPair B)) w ao0 cap0 x.fFolds
theorem RState.imp {B B' : Nat} {w w' : World} {cs : List Value} {x : TState} (h : RState B w cs x) (hb : Below B w w') (hB : B ≤ B') : RState B' w' cs x := by
  obtain ⟨ao0, cap0, rfl, h0⟩ := h
  exact ⟨ao0, cap0, rfl, h0.imp hb hB (fun cs x _ h => (fun _ _ h => RSl.imp h hb hB (fun cs x _ h => (fun _ _ h => RPair.imp h hb hB) cs x h)) cs x h)⟩
theorem RState.at {B : Nat} {w : World} {x : TState} {b off i : Nat} {cap : Nat} {xs : List TState} (h : SlA B 1 (RState B) w (some ⟨b, off, none⟩) cap xs) (hi : i < xs.length) (hx : xs[i] = x) :
    ∃ (ao0 : Option Addr) (cap0 : Nat), w.cell? ⟨b, off + i, none⟩ = some (.slice ao0 x.fFolds.length cap0) ∧
    SlA B 1 (RSl B 2 (RPair B)) w ao0 cap0 x.fFolds := by
  obtain ⟨cs, _, hc, hr⟩ := h.get i hi
  rw [hx] at hr
  obtain ⟨ao0, cap0, rfl, h0⟩ := hr
  exact ⟨ao0, cap0, by have := hc 0 (by omega); simpa [] using this, h0⟩
theorem RState.of_trod {H : Type} {enc : TypeId × Value → H} {spare : Nat → Bool} {held : Bool} {B : Nat} {w : World} {fuel : Nat} {cs : List Value} {x : DataW H × List MemPlace}
    (h : DataW.trod enc Try.prog w 0 spare held fuel 27 cs = some x) (hp : ∀ p ∈ x.2, p.block < B) : ∃ a, RState B w cs a := by
  obtain ⟨ys, n, _, rfl, hl, hlen, hf⟩ := DataW.trod_struct Try.underlying27 h
  have hsz : Try.prog.cellsOf 27 = 1 := by kernel_rfl
  rw [hsz] at hl
  match cs, hl, ys, hlen, hf, hp with
  | [c0], _, [y0], _, hf, hp =>
    have g0 : DataW.trod enc Try.prog w 0 spare held n 25 (([c0].drop 0).take (Try.prog.cellsOf 25)) = some y0 := hf 0 _ rfl
    rw [show Try.prog.cellsOf 25 = 1 by kernel_rfl] at g0
    have q0 : ∀ p ∈ y0.2, p.block < B := fun p hq => hp p (List.mem_flatMap.2 ⟨y0, by simp, hq⟩)
    obtain ⟨a0, r0⟩ := RSl.of_trod (sz := 1) Try.underlying25 (by kernel_rfl) (by decide) g0 q0 (fun n cs y h hp => RSl.of_trod (sz := 2) Try.underlying29 (by kernel_rfl) (by decide) h hp (fun n cs y h hp => RPair.of_trod h hp))
    obtain ⟨ao0, cap0, e0, w0⟩ := r0
    simp only [List.drop_zero, List.take_succ_cons, List.take_zero, List.cons.injEq, and_true] at e0
    exact ⟨⟨a0⟩, ao0, cap0, by simp [e0], w0⟩

structure TRecord where
  fProducer : Int
  fSeq : Int
  fPart : Int
  fKey : ByteArray
  fVal : Int

def RRecord (B : Nat) (w : World) (cs : List Value) (x : TRecord) : Prop :=
  cs = [.int .i64 x.fProducer, .int .i64 x.fSeq, .int .i64 x.fPart, .string x.fKey, .int .u32 x.fVal] ∧
    (Lit.int .i64 x.fProducer).wf = true ∧
    (Lit.int .i64 x.fSeq).wf = true ∧
    (Lit.int .i64 x.fPart).wf = true ∧
    x.fKey.size ≤ maxLen ∧
    (Lit.int .u32 x.fVal).wf = true
theorem RRecord.imp {B B' : Nat} {w w' : World} {cs : List Value} {x : TRecord} (h : RRecord B w cs x) (hb : Below B w w') (hB : B ≤ B') : RRecord B' w' cs x := by
  obtain ⟨rfl, h0, h1, h2, h3, h4⟩ := h
  exact ⟨rfl, h0, h1, h2, h3, h4⟩
theorem RRecord.at {B : Nat} {w : World} {x : TRecord} {b off i : Nat} {cap : Nat} {xs : List TRecord} (h : SlA B 5 (RRecord B) w (some ⟨b, off, none⟩) cap xs) (hi : i < xs.length) (hx : xs[i] = x) :
    w.cell? ⟨b, off + i * 5, none⟩ = some (.int .i64 x.fProducer) ∧
    w.cell? ⟨b, off + i * 5 + 1, none⟩ = some (.int .i64 x.fSeq) ∧
    w.cell? ⟨b, off + i * 5 + 2, none⟩ = some (.int .i64 x.fPart) ∧
    w.cell? ⟨b, off + i * 5 + 3, none⟩ = some (.string x.fKey) ∧
    w.cell? ⟨b, off + i * 5 + 4, none⟩ = some (.int .u32 x.fVal) ∧
    (Lit.int .i64 x.fProducer).wf = true ∧
    (Lit.int .i64 x.fSeq).wf = true ∧
    (Lit.int .i64 x.fPart).wf = true ∧
    x.fKey.size ≤ maxLen ∧
    (Lit.int .u32 x.fVal).wf = true := by
  obtain ⟨cs, _, hc, hr⟩ := h.get i hi
  rw [hx] at hr
  obtain ⟨rfl, h0, h1, h2, h3, h4⟩ := hr
  exact ⟨by have := hc 0 (by omega); simpa [] using this, by have := hc 1 (by omega); simpa [Nat.add_assoc] using this, by have := hc 2 (by omega); simpa [Nat.add_assoc] using this, by have := hc 3 (by omega); simpa [Nat.add_assoc] using this, by have := hc 4 (by omega); simpa [Nat.add_assoc] using this, h0, h1, h2, h3, h4⟩
theorem RRecord.of_trod {H : Type} {enc : TypeId × Value → H} {spare : Nat → Bool} {held : Bool} {B : Nat} {w : World} {fuel : Nat} {cs : List Value} {x : DataW H × List MemPlace}
    (h : DataW.trod enc Try.prog w 0 spare held fuel 47 cs = some x) (hp : ∀ p ∈ x.2, p.block < B) : ∃ a, RRecord B w cs a := by
  obtain ⟨ys, n, _, rfl, hl, hlen, hf⟩ := DataW.trod_struct Try.underlying47 h
  have hsz : Try.prog.cellsOf 47 = 5 := by kernel_rfl
  rw [hsz] at hl
  match cs, hl, ys, hlen, hf, hp with
  | [c0, c1, c2, c3, c4], _, [y0, y1, y2, y3, y4], _, hf, hp =>
    have g0 : DataW.trod enc Try.prog w 0 spare held n 3 (([c0, c1, c2, c3, c4].drop 0).take (Try.prog.cellsOf 3)) = some y0 := hf 0 _ rfl
    rw [show Try.prog.cellsOf 3 = 1 by kernel_rfl] at g0
    have q0 : ∀ p ∈ y0.2, p.block < B := fun p hq => hp p (List.mem_flatMap.2 ⟨y0, by simp, hq⟩)
    obtain ⟨a0, r0⟩ := RI.of_trod Try.underlying3 g0
    have g1 : DataW.trod enc Try.prog w 0 spare held n 3 (([c0, c1, c2, c3, c4].drop 1).take (Try.prog.cellsOf 3)) = some y1 := hf 1 _ rfl
    rw [show Try.prog.cellsOf 3 = 1 by kernel_rfl] at g1
    have q1 : ∀ p ∈ y1.2, p.block < B := fun p hq => hp p (List.mem_flatMap.2 ⟨y1, by simp, hq⟩)
    obtain ⟨a1, r1⟩ := RI.of_trod Try.underlying3 g1
    have g2 : DataW.trod enc Try.prog w 0 spare held n 3 (([c0, c1, c2, c3, c4].drop 2).take (Try.prog.cellsOf 3)) = some y2 := hf 2 _ rfl
    rw [show Try.prog.cellsOf 3 = 1 by kernel_rfl] at g2
    have q2 : ∀ p ∈ y2.2, p.block < B := fun p hq => hp p (List.mem_flatMap.2 ⟨y2, by simp, hq⟩)
    obtain ⟨a2, r2⟩ := RI.of_trod Try.underlying3 g2
    have g3 : DataW.trod enc Try.prog w 0 spare held n 9 (([c0, c1, c2, c3, c4].drop 3).take (Try.prog.cellsOf 9)) = some y3 := hf 3 _ rfl
    rw [show Try.prog.cellsOf 9 = 1 by kernel_rfl] at g3
    have q3 : ∀ p ∈ y3.2, p.block < B := fun p hq => hp p (List.mem_flatMap.2 ⟨y3, by simp, hq⟩)
    obtain ⟨a3, r3⟩ := RS.of_trod Try.underlying9 g3
    have g4 : DataW.trod enc Try.prog w 0 spare held n 45 (([c0, c1, c2, c3, c4].drop 4).take (Try.prog.cellsOf 45)) = some y4 := hf 4 _ rfl
    rw [show Try.prog.cellsOf 45 = 1 by kernel_rfl] at g4
    have q4 : ∀ p ∈ y4.2, p.block < B := fun p hq => hp p (List.mem_flatMap.2 ⟨y4, by simp, hq⟩)
    obtain ⟨a4, r4⟩ := RI.of_trod Try.underlying45 g4
    obtain ⟨e0, w0⟩ := r0
    simp only [List.drop_zero, List.take_succ_cons, List.take_zero, List.cons.injEq, and_true] at e0
    obtain ⟨e1, w1⟩ := r1
    simp only [List.drop_succ_cons, List.drop_zero, List.take_succ_cons, List.take_zero, List.cons.injEq, and_true] at e1
    obtain ⟨e2, w2⟩ := r2
    simp only [List.drop_succ_cons, List.drop_zero, List.take_succ_cons, List.take_zero, List.cons.injEq, and_true] at e2
    obtain ⟨e3, w3⟩ := r3
    simp only [List.drop_succ_cons, List.drop_zero, List.take_succ_cons, List.take_zero, List.cons.injEq, and_true] at e3
    obtain ⟨e4, w4⟩ := r4
    simp only [List.drop_succ_cons, List.drop_zero, List.take_succ_cons, List.take_zero, List.cons.injEq, and_true] at e4
    exact ⟨⟨a0, a1, a2, a3, a4⟩, by simp [e0, e1, e2, e3, e4], w0, w1, w2, w3, w4⟩

end Go.Proofs.Ytbianedgogdeeaa
