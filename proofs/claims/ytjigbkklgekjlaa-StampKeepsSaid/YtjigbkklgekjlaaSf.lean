/- Stamp: known, and the first laws. -/
import Derived.Test.YtjigbkklgekjlaaSe
import Derived.Deep.RegionHeld3
namespace Go.Proofs.Ytjigbkklgekjlaa
open Go.RowKit
set_option linter.unusedVariables false

theorem front_unique {l f : List TTime} (h : IsFront l f) : f = frontT l := h.unique (frontT_front l)

def knownL : List TTime := [⟨1, 2⟩, ⟨2, 0⟩, ⟨2, 5⟩, ⟨1, 2⟩]
def knownC : Array Value := #[.int .i64 1, .int .i64 2, .int .i64 2, .int .i64 0, .int .i64 2, .int .i64 5, .int .i64 1, .int .i64 2]
theorem known_front : frontT knownL = [⟨1, 2⟩, ⟨2, 0⟩] := by rfl
theorem knownR {w : World} {b : Nat} (h : Blk w b knownC 25) : SlA w.heap.size 2 (RTime w.heap.size) w (some ⟨b, 0, none⟩) 4 knownL :=
  SlA.of_blk h h.lt (by decide) (by unfold maxLen; decide) fun i hi => by
    have hi : i < 4 := hi
    match i, hi with
    | 0, _ => exact ⟨_, rfl, fun j hj => by match j, hj with | 0, _ => rfl | 1, _ => rfl, rfl, rfl, rfl⟩
    | 1, _ => exact ⟨_, rfl, fun j hj => by match j, hj with | 0, _ => rfl | 1, _ => rfl, rfl, rfl, rfl⟩
    | 2, _ => exact ⟨_, rfl, fun j hj => by match j, hj with | 0, _ => rfl | 1, _ => rfl, rfl, rfl, rfl⟩
    | 3, _ => exact ⟨_, rfl, fun j hj => by match j, hj with | 0, _ => rfl | 1, _ => rfl, rfl, rfl, rfl⟩
theorem knownR2 {w : World} {b : Nat} (h : Blk w b knownC 25) : SlA w.heap.size 2 (RTime w.heap.size) w (some ⟨b, 0, none⟩) 4 (knownL.take 2) :=
  SlA.of_blk h h.lt (by decide) (by unfold maxLen; decide) fun i hi => by
    have hi : i < 2 := hi
    match i, hi with
    | 0, _ => exact ⟨_, rfl, fun j hj => by match j, hj with | 0, _ => rfl | 1, _ => rfl, rfl, rfl, rfl⟩
    | 1, _ => exact ⟨_, rfl, fun j hj => by match j, hj with | 0, _ => rfl | 1, _ => rfl, rfl, rfl, rfl⟩

set_option maxRecDepth 100000 in
set_option maxHeartbeats 2000000 in
theorem known_any (w : World) : Calls Try.prog 8 #[] w fun e w' => e = .returned (.bool true) ∧ Below w.heap.size w w' := by
  go_enter Try.func8, Try.ntmps8
  go_wp2_with fail
  refine Code.wp_world ?_
  intro w1 hw1
  have hbel : Below w.heap.size w w1 := by rw [hw1]; exact (by repeat (first | exact Below.refl _ _ | assumption | refine below_drewN ?_ _ | refine Below.drew ?_ | (refine Below.setCell ?_ (by first | omega | (simp; omega) | simp) _) | (refine Below.alloc ?_ (by first | omega | (simp; omega) | simp) _) | (refine Below.trans ?_ (Below.mono (by assumption) (by first | omega | (simp; omega) | simp)))))
  have hB : Blk w1 w.heap.size knownC 25 := by rw [hw1]; exact Blk.new _ _ _
  have c0 : w1.cell? ⟨w.heap.size, 0, none⟩ = some (.int .i64 1) := hB.cellAt rfl
  have c1 : w1.cell? ⟨w.heap.size, 1, none⟩ = some (.int .i64 2) := hB.cellAt rfl
  have c2 : w1.cell? ⟨w.heap.size, 2, none⟩ = some (.int .i64 2) := hB.cellAt rfl
  have c3 : w1.cell? ⟨w.heap.size, 3, none⟩ = some (.int .i64 0) := hB.cellAt rfl
  clear hw1
  have hk1 : ∀ wx, Blk wx w.heap.size knownC 25 → SlA wx.heap.size 2 (RTime wx.heap.size) wx (some ⟨w.heap.size, 0, none⟩) 4 knownL := fun wx h => knownR h
  have hk2 : ∀ wx, Blk wx w.heap.size knownC 25 → SlA wx.heap.size 2 (RTime wx.heap.size) wx (some ⟨w.heap.size, 0, none⟩) 4 (knownL.take 2) := fun wx h => knownR2 h
  go_region_held3 (fun wx => wx.cell? ⟨w.heap.size, 0, none⟩ = some (.int .i64 1) ∧ wx.cell? ⟨w.heap.size, 1, none⟩ = some (.int .i64 2) ∧ wx.cell? ⟨w.heap.size, 2, none⟩ = some (.int .i64 2) ∧ wx.cell? ⟨w.heap.size, 3, none⟩ = some (.int .i64 0))
    (first | exact ⟨hB.cellAt rfl, hB.cellAt rfl, hB.cellAt rfl, hB.cellAt rfl⟩)
    (first
      | (go_at_call 15; refine (le_any _ _ _ _ _).mono ?_; rintro e w2 ⟨rfl, b2⟩; have hbel := (hbel.drew).trans (b2.mono hbel.size); have hB := hB.drew.below b2 hB.lt)
      | (go_at_call 15; refine (le_any _ _ _ _ _).mono ?_; rintro e w2 ⟨rfl, b2⟩; have hbel := hbel.trans (b2.mono hbel.size); have hB := hB.below b2 hB.lt)
      | (go_at_call 9; refine (front_any knownL _ _ _ _ (Nat.le_refl _) (hk1 _ hB) (by decide)).mono ?_; rintro e w2 ⟨v, f, rfl, hv, hf, b2⟩; obtain rfl := (front_unique hf).trans known_front; have hbel := hbel.trans (b2.mono hbel.size); have hB := hB.below b2 hB.lt; obtain ⟨va, vc, rfl, hvs⟩ := hv.sla)
      | (go_at_call 10; refine (sameTimes_any _ _ _ _ _ _ _ _ (Nat.le_refl _) hvs (hk2 _ hB)).mono ?_; rintro e w2 ⟨rfl, b2⟩; have hbel := hbel.trans (b2.mono hbel.size); have hB := hB.below b2 hB.lt))
  go_wp2_with fail
  go_ret
  exact ⟨rfl, hbel⟩
end Go.Proofs.Ytjigbkklgekjlaa
