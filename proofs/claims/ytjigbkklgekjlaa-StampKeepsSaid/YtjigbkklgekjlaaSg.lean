/- Stamp: StampFronts, StampJoins: the walks. -/
import Derived.Test.YtjigbkklgekjlaaSf
namespace Go.Proofs.Ytjigbkklgekjlaa
open Go.RowKit
set_option linter.unusedVariables false

theorem sameTimes_true (l m : List TTime) (ao bo : Option Addr) (c1 c2 : Nat) (w : World) (B : Nat) (hB : B ≤ w.heap.size) (hl : SlA B 2 (RTime B) w ao c1 l) (hm : SlA B 2 (RTime B) w bo c2 m) (h : l = m) :
    Calls Try.prog 10 #[.slice ao l.length c1, .slice bo m.length c2] w fun e w' => e = .returned (.bool true) ∧ Below w.heap.size w w' := by
  subst h
  have := sameTimes_any l l ao bo c1 c2 w B hB hl hm
  rw [sameTs_self] at this
  exact this
theorem same_tt (a b c d : Int) (w : World) (h1 : a = c) (h2 : b = d) :
    Calls Try.prog 11 #[.agg #[.int .i64 a, .int .i64 b], .agg #[.int .i64 c, .int .i64 d]] w fun x w' => x = .returned (.bool true) ∧ Below w.heap.size w w' := by
  have := same_any a b c d w
  rwa [(sameT_iff _ _).2 (by rw [h1, h2])] at this
theorem same_of (a b c d : Int) (w : World) (r : Bool) (h : sameT ⟨a, b⟩ ⟨c, d⟩ = r) :
    Calls Try.prog 11 #[.agg #[.int .i64 a, .int .i64 b], .agg #[.int .i64 c, .int .i64 d]] w fun x w' => x = .returned (.bool r) ∧ Below w.heap.size w w' := by
  have := same_any a b c d w
  rwa [h] at this

set_option maxRecDepth 100000 in
set_option maxHeartbeats 2000000 in
theorem fronts_walk (l : List TTime) (t : TTime) (ao : Option Addr) (c1 : Nat) (w : World) (hl : SlA w.heap.size 2 (RTime w.heap.size) w ao c1 l) (hreach : l.length * 16 ≤ 140737488351232) :
    Calls Try.prog 5 #[.slice ao l.length c1, .agg #[.int .i64 t.fEpoch, .int .i64 t.fRound]] w fun e w' => e = .returned (.bool true) ∧ Below w.heap.size w w' := by
  have hfr : ∀ W, Below w.heap.size w W → Calls Try.prog 9 #[.slice ao l.length c1] W fun e w' => ∃ v f, e = .returned v ∧ OwnT w' W.heap.size v f ∧ f = frontT l ∧ Below W.heap.size W w' := fun W hb =>
    (front_any l ao c1 W w.heap.size hb.size (imp_times hl hb) hreach).mono fun e w' ⟨v, f, he, ho, hf, hb'⟩ => ⟨v, f, he, ho, front_unique hf, hb'⟩
  have hrf : ∀ W, Below w.heap.size w W → Calls Try.prog 12 #[.slice ao l.length c1] W fun e w' => ∃ v, e = .returned v ∧ OwnT w' W.heap.size v (frontT l) ∧ Below W.heap.size W w' := fun W hb =>
    rfront_any l ao c1 W w.heap.size hb.size (imp_times hl hb) hreach
  have hcv : ∀ W, Below w.heap.size w W → Calls Try.prog 16 #[.slice ao l.length c1, .agg #[.int .i64 t.fEpoch, .int .i64 t.fRound]] W fun e w' => e = .returned (.bool (coversT l t)) ∧ Below W.heap.size W w' := fun W hb =>
    covers_any l t ao c1 W w.heap.size hb.size (imp_times hl hb)
  have hrc : ∀ W, Below w.heap.size w W → Calls Try.prog 17 #[.slice ao l.length c1, .agg #[.int .i64 t.fEpoch, .int .i64 t.fRound]] W fun e w' => e = .returned (.bool (coversT l t)) ∧ Below W.heap.size W w' := fun W hb =>
    rcovers_any l t ao c1 W w.heap.size hb.size (imp_times hl hb)
  generalize coversT l t = cv at hcv hrc
  generalize hfl : frontT l = fl at hfr hrf
  clear hfl hl
  generalize l.length = n at *
  go_enter Try.func5, Try.ntmps5
  go_wp2_with fail
  refine Code.wp_world ?_
  intro w1 hw1
  have hbel : Below w.heap.size w w1 := by rw [hw1]; exact (by repeat (first | exact Below.refl _ _ | assumption | refine below_drewN ?_ _ | refine Below.drew ?_ | (refine Below.setCell ?_ (by first | omega | (simp; omega) | simp) _) | (refine Below.alloc ?_ (by first | omega | (simp; omega) | simp) _) | (refine Below.trans ?_ (Below.mono (by assumption) (by first | omega | (simp; omega) | simp)))))
  have hB : Blk w1 w.heap.size #[.int .i64 t.fEpoch, .int .i64 t.fRound] 25 := by rw [hw1]; exact Blk.new _ _ _
  have c0 : w1.cell? ⟨w.heap.size, 0, none⟩ = some (.int .i64 t.fEpoch) := hB.cellAt rfl
  have c1' : w1.cell? ⟨w.heap.size, 1, none⟩ = some (.int .i64 t.fRound) := hB.cellAt rfl
  clear hw1
  go_region_held3 (fun wx => wx.cell? ⟨w.heap.size, 0, none⟩ = some (.int .i64 t.fEpoch) ∧ wx.cell? ⟨w.heap.size, 1, none⟩ = some (.int .i64 t.fRound))
    (first | exact ⟨hB.cellAt rfl, hB.cellAt rfl⟩)
    (first
      | (go_at_call 8; refine (known_any _).mono ?_; rintro e w2 ⟨rfl, b2⟩; have hbel := (hbel.drew).trans (b2.mono hbel.size); have hB := hB.drew.below b2 hB.lt)
      | (go_at_call 9; refine (hfr _ hbel).mono ?_; rintro e w2 ⟨v1, f1, rfl, hv1, rfl, b2⟩; have hbel := hbel.trans (b2.mono hbel.size); have hB := hB.below b2 hB.lt)
      | (go_at_call 12; refine (hrf _ hbel).mono ?_; rintro e w2 ⟨v2, rfl, hv2, b2⟩; have hbel := hbel.trans (b2.mono hbel.size); have hB := hB.below b2 hB.lt; have hv1 := hv1.below b2 (Nat.le_refl _); obtain ⟨a1, k1, rfl, s1⟩ := hv1.sla; obtain ⟨a2, k2, rfl, s2⟩ := hv2.sla)
      | (go_at_call 10; refine (sameTimes_true _ _ _ _ _ _ _ _ (Nat.le_refl _) s1 s2 rfl).mono ?_; rintro e w2 ⟨rfl, b2⟩; have hbel := hbel.trans (b2.mono hbel.size); have hB := hB.below b2 hB.lt)
      | (go_at_call 16; refine (hcv _ hbel).mono ?_; rintro e w2 ⟨rfl, b2⟩; have hbel := hbel.trans (b2.mono hbel.size); have hB := hB.below b2 hB.lt)
      | (go_at_call 17; refine (hrc _ hbel).mono ?_; rintro e w2 ⟨rfl, b2⟩; have hbel := hbel.trans (b2.mono hbel.size); have hB := hB.below b2 hB.lt))
  go_wp2_with fail
  go_ret
  exact ⟨by simp, hbel⟩

theorem time_agg {w : World} {B : Nat} {cs : Array Value} {x : TTime} (h : RTime B w (Value.cells (.agg cs)).toList x) : cs = #[.int .i64 x.fEpoch, .int .i64 x.fRound] ∧ wfT x := by
  obtain ⟨h1, h2, h3⟩ := h
  refine ⟨?_, h2, h3⟩
  simp only [Value.cells] at h1
  exact Array.toList_inj.1 (by simpa using h1)
theorem times_arg {w : World} {ao : Option Addr} {len cap : Nat} {xs : List TTime} (h : RSl w.heap.size 2 (RTime w.heap.size) w (Value.cells (.slice ao len cap)).toList xs) : len = xs.length ∧ SlA w.heap.size 2 (RTime w.heap.size) w ao cap xs := by
  obtain ⟨ao', cap', h1, h2⟩ := h
  simp only [Value.cells, List.cons.injEq, Value.slice.injEq, and_true] at h1
  obtain ⟨rfl, rfl, rfl⟩ := h1
  exact ⟨rfl, h2⟩
theorem fronts_row {w : World} (ao : Option Addr) (len cap : Nat) (xs : List TTime) (hx : RSl w.heap.size 2 (RTime w.heap.size) w (Value.cells (.slice ao len cap)).toList xs) (hz : cap * 16 ≤ reachBytes)
    (cs : Array Value) (t : TTime) (ht : RTime w.heap.size w (Value.cells (.agg cs)).toList t) :
    Calls Try.prog 5 #[.slice ao len cap, .agg cs] w fun e w' => e = .returned (.bool true) ∧ Below w.heap.size w w' := by
  obtain ⟨rfl, h⟩ := times_arg hx
  obtain ⟨rfl, _⟩ := time_agg ht
  have hr : reachBytes = 140737488351232 := rfl
  have hl := h.1
  exact fronts_walk xs t ao cap w h (by omega)
end Go.Proofs.Ytjigbkklgekjlaa
