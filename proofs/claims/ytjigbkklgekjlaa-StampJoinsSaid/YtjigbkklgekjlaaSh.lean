/- Stamp: StampJoins: the walk. -/
import Derived.Test.YtjigbkklgekjlaaSg
namespace Go.Proofs.Ytjigbkklgekjlaa
open Go.RowKit
set_option linter.unusedVariables false

set_option maxRecDepth 100000 in
set_option maxHeartbeats 4000000 in
theorem joins_walk (a0 a1 b0 b1 d0 d1 : Int) (w : World) :
    Calls Try.prog 4 #[.agg #[.int .i64 a0, .int .i64 a1], .agg #[.int .i64 b0, .int .i64 b1], .agg #[.int .i64 d0, .int .i64 d1]] w fun e w' => e = .returned (.bool true) ∧ Below w.heap.size w w' := by
  have hlast : sameT ⟨max a0 b0, max a1 b1⟩ ⟨b0, b1⟩ = leT ⟨a0, a1⟩ ⟨b0, b1⟩ := by
    rw [Bool.eq_iff_iff]; simp [sameT, leT]; omega
  have hle := fun W => le_any a0 a1 b0 b1 W
  generalize leT ⟨a0, a1⟩ ⟨b0, b1⟩ = lv at hlast hle
  replace hlast := Lib.hid hlast
  go_enter Try.func4, Try.ntmps4
  go_wp2_with fail
  refine Code.wp_world ?_
  intro w1 hw1
  have hbel : Below w.heap.size w w1 := by rw [hw1]; exact (by repeat (first | exact Below.refl _ _ | assumption | refine below_drewN ?_ _ | refine Below.drew ?_ | (refine Below.setCell ?_ (by first | omega | (simp; omega) | simp) _) | (refine Below.alloc ?_ (by first | omega | (simp; omega) | simp) _) | (refine Below.trans ?_ (Below.mono (by assumption) (by first | omega | (simp; omega) | simp)))))
  have hA : Blk w1 w.heap.size #[.int .i64 a0, .int .i64 a1] 25 := by rw [hw1]; exact ((Blk.new _ _ _).alloc _).alloc _
  have hB : Blk w1 (w.heap.size + 1) #[.int .i64 b0, .int .i64 b1] 25 := by rw [hw1]; have := (Blk.new (w.alloc (.cells #[.int .i64 a0, .int .i64 a1] 25)) #[.int .i64 b0, .int .i64 b1] 25).alloc (.cells #[.int .i64 d0, .int .i64 d1] 25); simpa using this
  have hD : Blk w1 (w.heap.size + 1 + 1) #[.int .i64 d0, .int .i64 d1] 25 := by rw [hw1]; have := Blk.new ((w.alloc (.cells #[.int .i64 a0, .int .i64 a1] 25)).alloc (.cells #[.int .i64 b0, .int .i64 b1] 25)) #[.int .i64 d0, .int .i64 d1] 25; simpa using this
  have e0 : w1.cell? ⟨w.heap.size, 0, none⟩ = some (.int .i64 a0) := hA.cellAt rfl
  have e1 : w1.cell? ⟨w.heap.size, 1, none⟩ = some (.int .i64 a1) := hA.cellAt rfl
  have e2 : w1.cell? ⟨w.heap.size + 1, 0, none⟩ = some (.int .i64 b0) := hB.cellAt rfl
  have e3 : w1.cell? ⟨w.heap.size + 1, 1, none⟩ = some (.int .i64 b1) := hB.cellAt rfl
  have e4 : w1.cell? ⟨w.heap.size + 1 + 1, 0, none⟩ = some (.int .i64 d0) := hD.cellAt rfl
  have e5 : w1.cell? ⟨w.heap.size + 1 + 1, 1, none⟩ = some (.int .i64 d1) := hD.cellAt rfl
  clear hw1
  simp only [List.append]
  go_region_held3 (fun wx => wx.cell? ⟨w.heap.size, 0, none⟩ = some (.int .i64 a0) ∧ wx.cell? ⟨w.heap.size, 1, none⟩ = some (.int .i64 a1) ∧ wx.cell? ⟨w.heap.size + 1, 0, none⟩ = some (.int .i64 b0) ∧ wx.cell? ⟨w.heap.size + 1, 1, none⟩ = some (.int .i64 b1) ∧ wx.cell? ⟨w.heap.size + 1 + 1, 0, none⟩ = some (.int .i64 d0) ∧ wx.cell? ⟨w.heap.size + 1 + 1, 1, none⟩ = some (.int .i64 d1))
    (first | exact ⟨hA.cellAt rfl, hA.cellAt rfl, hB.cellAt rfl, hB.cellAt rfl, hD.cellAt rfl, hD.cellAt rfl⟩)
    (first
      | (go_at_call 8; refine (known_any _).mono ?_; rintro e w2 ⟨rfl, b2⟩; have hbel := (hbel.drew).trans (b2.mono hbel.size); have hA := hA.drew.below b2 hA.lt; have hB := hB.drew.below b2 hB.lt; have hD := hD.drew.below b2 hD.lt)
      | (go_at_call 13; refine (join_any _ _ _ _ _).mono ?_; rintro e w2 ⟨rfl, b2⟩; have hbel := hbel.trans (b2.mono hbel.size); have hA := hA.below b2 hA.lt; have hB := hB.below b2 hB.lt; have hD := hD.below b2 hD.lt)
      | (go_at_call 14; refine (meet_any _ _ _ _ _).mono ?_; rintro e w2 ⟨rfl, b2⟩; have hbel := hbel.trans (b2.mono hbel.size); have hA := hA.below b2 hA.lt; have hB := hB.below b2 hB.lt; have hD := hD.below b2 hD.lt)
      | (go_at_call 15; refine (hle _).mono ?_; rintro e w2 ⟨rfl, b2⟩; have hbel := hbel.trans (b2.mono hbel.size); have hA := hA.below b2 hA.lt; have hB := hB.below b2 hB.lt; have hD := hD.below b2 hD.lt)
      | (go_at_call 11; refine (same_tt _ _ _ _ _ (by omega) (by omega)).mono ?_; rintro e w2 ⟨rfl, b2⟩; have hbel := hbel.trans (b2.mono hbel.size); have hA := hA.below b2 hA.lt; have hB := hB.below b2 hB.lt; have hD := hD.below b2 hD.lt)
      | (go_at_call 11; refine (same_of _ _ _ _ _ _ hlast.out).mono ?_; rintro e w2 ⟨rfl, b2⟩; have hbel := hbel.trans (b2.mono hbel.size); have hA := hA.below b2 hA.lt; have hB := hB.below b2 hB.lt; have hD := hD.below b2 hD.lt))
  go_wp2_with fail
  go_ret
  exact ⟨by simp, hbel⟩
theorem joins_row {w : World} (c0 : Array Value) (x0 : TTime) (h0 : RTime w.heap.size w (Value.cells (.agg c0)).toList x0) (c1 : Array Value) (x1 : TTime) (h1 : RTime w.heap.size w (Value.cells (.agg c1)).toList x1) (c2 : Array Value) (x2 : TTime) (h2 : RTime w.heap.size w (Value.cells (.agg c2)).toList x2) :
    Calls Try.prog 4 #[.agg c0, .agg c1, .agg c2] w fun e w' => e = .returned (.bool true) ∧ Below w.heap.size w w' := by
  obtain ⟨rfl, _⟩ := time_agg h0
  obtain ⟨rfl, _⟩ := time_agg h1
  obtain ⟨rfl, _⟩ := time_agg h2
  exact joins_walk _ _ _ _ _ _ w
end Go.Proofs.Ytjigbkklgekjlaa
