/- GraphChecks: the walk. -/
import Derived.Test.YtmoengfpbgpnfaaGA
import Derived.Test.YtmoengfpbgpnfaaL1
namespace Go.Proofs.Ytmoengfpbgpnfaa
open Go.RowKit
set_option linter.unusedVariables false

def ops3 : List TOp := [⟨1, [], 0, 0, 0, 0, 0⟩, ⟨6, [0, 0], 0, 0, 0, 0, 0⟩, ⟨8, [1], 0, 0, 0, 0, 0⟩]
def ops1 : List TOp := [⟨1, [], 0, 0, 0, 0, 0⟩]

theorem ops1_read (w : World) : SlA (w.heap.size + 1) 7 (ROp (w.heap.size + 1)) (w.alloc (.cells #[.int .i64 1, .slice none 0 0, .int .i64 0, .int .u32 0, .int .i64 0, .int .i64 0, .int .u32 0] 49)) (some ⟨w.heap.size, 0, none⟩) 1 ops1 := by
  refine SlA.of_blk (Blk.new w _ _) (by omega) (by decide) (by unfold maxLen; omega) ?_
  intro i hi
  match i, hi with
  | 0, _ => exact ⟨[.int .i64 1, .slice none 0 0, .int .i64 0, .int .u32 0, .int .i64 0, .int .i64 0, .int .u32 0], rfl, fun j hj => (match j, hj with | 0, _ | 1, _ | 2, _ | 3, _ | 4, _ | 5, _ | 6, _ => rfl), none, 0, rfl, rfl, SlA.nil _ _ _ _, rfl, rfl, rfl, rfl, rfl⟩

theorem ops3_read (w : World) (o : Obj) : SlA (w.heap.size + 3) 7 (ROp (w.heap.size + 3)) ((((w.alloc (.cells #[.int .i64 0, .int .i64 0] 3)).alloc (.cells #[.int .i64 1] 3)).alloc
    (.cells #[.int .i64 1, .slice none 0 0, .int .i64 0, .int .u32 0, .int .i64 0, .int .i64 0, .int .u32 0, .int .i64 6, .slice (some ⟨w.heap.size, 0, none⟩) 2 2, .int .i64 0, .int .u32 0, .int .i64 0, .int .i64 0, .int .u32 0,
      .int .i64 8, .slice (some ⟨w.heap.size + 1, 0, none⟩) 1 1, .int .i64 0, .int .u32 0, .int .i64 0, .int .i64 0, .int .u32 0] 49)).alloc o) (some ⟨w.heap.size + 1 + 1, 0, none⟩) 3 ops3 := by
  generalize hA : (Obj.cells #[.int .i64 0, .int .i64 0] 3) = A
  generalize hB : (Obj.cells #[.int .i64 1] 3) = B
  generalize hC : (Obj.cells #[.int .i64 1, .slice none 0 0, .int .i64 0, .int .u32 0, .int .i64 0, .int .i64 0, .int .u32 0, .int .i64 6, .slice (some ⟨w.heap.size, 0, none⟩) 2 2, .int .i64 0, .int .u32 0, .int .i64 0, .int .i64 0, .int .u32 0,
      .int .i64 8, .slice (some ⟨w.heap.size + 1, 0, none⟩) 1 1, .int .i64 0, .int .u32 0, .int .i64 0, .int .i64 0, .int .u32 0] 49) = C
  have b0 : Blk ((((w.alloc A).alloc B).alloc C).alloc o) w.heap.size #[.int .i64 0, .int .i64 0] 3 := by rw [← hA]; exact (((Blk.new w _ _).alloc B).alloc C).alloc o
  have b1 : Blk ((((w.alloc A).alloc B).alloc C).alloc o) (w.heap.size + 1) #[.int .i64 1] 3 := by
    have := ((Blk.new (w.alloc A) #[.int .i64 1] 3).alloc C).alloc o
    rw [hB, World.size_alloc] at this
    exact this
  have b2 : Blk ((((w.alloc A).alloc B).alloc C).alloc o) (w.heap.size + 1 + 1) #[.int .i64 1, .slice none 0 0, .int .i64 0, .int .u32 0, .int .i64 0, .int .i64 0, .int .u32 0, .int .i64 6, .slice (some ⟨w.heap.size, 0, none⟩) 2 2, .int .i64 0, .int .u32 0, .int .i64 0, .int .i64 0, .int .u32 0,
      .int .i64 8, .slice (some ⟨w.heap.size + 1, 0, none⟩) 1 1, .int .i64 0, .int .u32 0, .int .i64 0, .int .i64 0, .int .u32 0] 49 := by
    have := (Blk.new ((w.alloc A).alloc B) #[.int .i64 1, .slice none 0 0, .int .i64 0, .int .u32 0, .int .i64 0, .int .i64 0, .int .u32 0, .int .i64 6, .slice (some ⟨w.heap.size, 0, none⟩) 2 2, .int .i64 0, .int .u32 0, .int .i64 0, .int .i64 0, .int .u32 0,
      .int .i64 8, .slice (some ⟨w.heap.size + 1, 0, none⟩) 1 1, .int .i64 0, .int .u32 0, .int .i64 0, .int .i64 0, .int .u32 0] 49).alloc o
    rw [hC, World.size_alloc, World.size_alloc] at this
    exact this
  generalize (((w.alloc A).alloc B).alloc C).alloc o = W at b0 b1 b2
  have m2 : (2 : Nat) ≤ maxLen := by unfold maxLen; omega
  have m1 : (1 : Nat) ≤ maxLen := by unfold maxLen; omega
  refine SlA.of_blk b2 (by omega) (by decide) (by unfold maxLen; omega) ?_
  intro i hi
  match i, hi with
  | 0, _ => exact ⟨[.int .i64 1, .slice none 0 0, .int .i64 0, .int .u32 0, .int .i64 0, .int .i64 0, .int .u32 0], rfl, fun j hj => (match j, hj with | 0, _ | 1, _ | 2, _ | 3, _ | 4, _ | 5, _ | 6, _ => rfl), none, 0, rfl, rfl, SlA.nil _ _ _ _, rfl, rfl, rfl, rfl, rfl⟩
  | 1, _ => exact ⟨[.int .i64 6, .slice (some ⟨w.heap.size, 0, none⟩) 2 2, .int .i64 0, .int .u32 0, .int .i64 0, .int .i64 0, .int .u32 0], rfl, fun j hj => (match j, hj with | 0, _ | 1, _ | 2, _ | 3, _ | 4, _ | 5, _ | 6, _ => rfl), _, 2, rfl, rfl,
      SlA.of_blk1 b0 (by omega) (Nat.le_refl 2) m2 (fun i hi => match i, hi with | 0, _ => ⟨rfl, rfl⟩ | 1, _ => ⟨rfl, rfl⟩), rfl, rfl, rfl, rfl, rfl⟩
  | 2, _ => exact ⟨[.int .i64 8, .slice (some ⟨w.heap.size + 1, 0, none⟩) 1 1, .int .i64 0, .int .u32 0, .int .i64 0, .int .i64 0, .int .u32 0], rfl, fun j hj => (match j, hj with | 0, _ | 1, _ | 2, _ | 3, _ | 4, _ | 5, _ | 6, _ => rfl), _, 1, rfl, rfl,
      SlA.of_blk1 b1 (by omega) (Nat.le_refl 1) m1 (fun i hi => match i, hi with | 0, _ => ⟨rfl, rfl⟩), rfl, rfl, rfl, rfl, rfl⟩

set_option maxHeartbeats 1000000 in
theorem known_any (w : World) :
    Calls Try.prog 10 #[] w fun e w' => e = .returned (.bool true) ∧ Below w.heap.size w w' := by
  go_enter Try.func10, Try.ntmps10
  go_wp2_with fail
  refine (gcheck_all ops3 3 (some ⟨w.heap.size + 1 + 1, 0, none⟩) _ (w.heap.size + 3) ?_ (ops3_read w _)).mono ?_
  · simp
  rintro e w1 ⟨rfl, hb⟩
  have g3 : gcheck ops3 = (0, 0) := by decide
  rw [g3]
  have b1 : Below w.heap.size w w1 := ((((Below.refl _ w).alloc (Nat.le_refl _) _).alloc (by simp) _).alloc (by simp; omega) _ |>.alloc (by simp; omega) _).trans (hb.mono (by simp; omega))
  go_wp2_with fail
  refine (gcheck_all ops1 1 (some ⟨w1.heap.size, 0, none⟩) _ (w1.heap.size + 1) ?_ (ops1_read w1)).mono ?_
  · simp
  rintro e w2 ⟨rfl, hb2⟩
  have g1 : gcheck ops1 = (0, 13) := by decide
  rw [g1]
  go_wp2_with fail
  go_ret
  exact ⟨rfl, b1.trans (((Below.refl _ w1).alloc b1.size _).trans (hb2.mono (by have := b1.size; simp; omega)))⟩

set_option maxHeartbeats 1000000 in
theorem checks_walk (ops : List TOp) (cap : Nat) (ao : Option Addr) (w : World) (hx : SlA w.heap.size 7 (ROp w.heap.size) w ao cap ops) :
    Calls Try.prog 3 #[.agg #[.slice ao ops.length cap]] w fun e w' => e = .returned (.bool true) ∧ Below w.heap.size w w' := by
  go_enter Try.func3, Try.ntmps3
  go_wp2_with fail
  have h0 := imp_ops hx ((Below.refl _ w).alloc (Nat.le_refl _) (.cells #[.slice ao ops.length cap] 24))
  have b0 := (Below.refl w.heap.size w).alloc (Nat.le_refl _) (.cells #[.slice ao ops.length cap] 24)
  refine (gcheck_all ops cap ao _ w.heap.size ?_ h0).mono ?_
  · simp
  rintro e w1 ⟨rfl, hb1⟩
  have hc1 : w1.cell? ⟨w.heap.size, 0, none⟩ = some (.slice ao ops.length cap) := by rw [hb1.cell (p := ⟨w.heap.size, 0, none⟩) (by simp)]; simp
  have h1 := imp_ops h0 (hb1.mono (by simp))
  have b1 := b0.trans (hb1.mono (by simp))
  clear hb1 h0 b0
  go_wp2_with fail
  refine (rcheck_all ops cap ao _ w.heap.size ?_ h1).mono ?_
  · exact b1.size
  rintro e w2 ⟨rfl, hb2⟩
  have b2 := b1.trans (hb2.mono b1.size)
  generalize (gcheck ops).1 = r1
  generalize (gcheck ops).2 = r2
  go_wp2_with fail
  refine (known_any w2).mono ?_
  rintro e w3 ⟨rfl, hb3⟩
  go_wp2_with fail
  go_ret
  exact ⟨by simp, b2.trans (hb3.mono b2.size)⟩

theorem checks_row (cs : Array Value) (x : TGraph) {w : World} (hx : RGraph w.heap.size w (Value.cells (.agg cs)).toList x) :
    Calls Try.prog 3 #[.agg cs] w fun e w' => e = .returned (.bool true) ∧ Below w.heap.size w w' := by
  obtain ⟨ao, cap, rfl, h⟩ := graph_agg hx
  exact checks_walk x.fOps cap ao w h
end Go.Proofs.Ytmoengfpbgpnfaa
