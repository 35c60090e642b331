/- Graph: the reference's Check, whole; a graph's value. -/
import Derived.Test.YtmoengfpbgpnfaaGrefc
import Derived.Test.YtmoengfpbgpnfaaBaseE
namespace Go.Proofs.Ytmoengfpbgpnfaa
open Go.RowKit
set_option linter.unusedVariables false

set_option maxHeartbeats 1000000 in
theorem rcheck_long (n cap : Nat) (ao : Option Addr) (w : World) (h : n < 1 ∨ 16 < n) (_hm : n ≤ 9223372036854775807) :
    Calls Try.prog 9 #[.agg #[.slice ao n cap]] w fun e w' => e = .returned (.tuple #[.int .i64 0, .int .i64 2]) ∧ Below w.heap.size w w' := by
  rcases h with h | h
  · go_enter Try.func9, Try.ntmps9
    go_wp2
    go_ret2
    exact ⟨rfl, (Below.refl _ _).alloc (Nat.le_refl _) _⟩
  · have h' : 1 ≤ n := by omega
    go_enter Try.func9, Try.ntmps9
    go_wp2
    go_ret2
    exact ⟨rfl, (Below.refl _ _).alloc (Nat.le_refl _) _⟩

theorem rcheck_all (ops : List TOp) (cap : Nat) (ao : Option Addr) (w : World) (B : Nat) (hB : B ≤ w.heap.size) (hx : SlA B 7 (ROp B) w ao cap ops) :
    Calls Try.prog 9 #[.agg #[.slice ao ops.length cap]] w fun e w' => e = .returned (.tuple #[.int .i64 (gcheck ops).1, .int .i64 (gcheck ops).2]) ∧ Below w.heap.size w w' := by
  unfold gcheck
  by_cases hl : ops.length < 1 ∨ 16 < ops.length
  · rw [if_pos hl]
    exact rcheck_long _ cap ao w hl hx.len
  rw [if_neg hl]
  rcases ops_cases ops with h | ⟨m, hm, hbad, hgood⟩
  · rw [badFrom_none h]
    have := rcheck_any ops cap ao w B hB hx (by omega) (by omega) ops.length (Nat.le_refl _) (fun h => by omega) (fun k hk _ => h k hk)
    simpa using this
  · rw [badFrom_hit hm hbad hgood]
    have := rcheck_any ops cap ao w B hB hx (by omega) (by omega) m (by omega) (fun _ => hbad) hgood
    simpa [hm] using this

theorem graph_agg {w : World} {cs : Array Value} {x : TGraph} (hx : RGraph w.heap.size w (Value.cells (.agg cs)).toList x) : ∃ ao cap, cs = #[.slice ao x.fOps.length cap] ∧ SlA w.heap.size 7 (ROp w.heap.size) w ao cap x.fOps := by
  obtain ⟨ao, cap, h1, h2⟩ := hx
  exact ⟨ao, cap, by cases cs; simpa [Value.cells] using h1, h2⟩

end Go.Proofs.Ytmoengfpbgpnfaa
