/- Entry: num of Decode. -/
import Derived.Test.YtcigbobihkkdiaaEi
namespace Go.Proofs.Ytcigbobihkkdiaa
open Go.RowKit
set_option linter.unusedVariables false
set_option linter.unusedSimpArgs false

/-- The closure take, in its box. -/
def tkF (wb : Nat) : Value := .func (.func 25) #[] #[.pointer (some ⟨wb, 0, none⟩)]

theorem fld1 (a b c d : Value) (w : World) : (Instr.field 50 (.agg #[a, b, c, d]) 1).run Try.prog w = .ok b w := by kernel_rfl
theorem fld2 (a b c d : Value) (w : World) : (Instr.field 50 (.agg #[a, b, c, d]) 2).run Try.prog w = .ok c w := by kernel_rfl
theorem fld3 (a b c d : Value) (w : World) : (Instr.field 50 (.agg #[a, b, c, d]) 3).run Try.prog w = .ok d w := by kernel_rfl
attribute [local go_sem] fld1 fld2 fld3

set_option maxRecDepth 100000 in
set_option maxHeartbeats 2000000 in
theorem dnum_any (d : Nat) (D : Nat → Prop) (l : List Itm) (ao : Option Addr) (cap i : Nat) (b : Bool) (wb tb : Nat) (w : World) (h : RItsP (d + 1) D w ao cap l) (hD : ∀ k, D k → k < w.heap.size) (hb : Blk w wb #[.bool b] 4) (ht : w.cell? ⟨tb, 0, none⟩ = some (tkF wb)) (hi : i ≤ 100) :
    Calls Try.prog 26 #[.slice ao l.length cap, .int .i64 i, .pointer (some ⟨tb, 0, none⟩), .pointer (some ⟨wb, 0, none⟩)] w fun e w' => e = .returned (.int .u32 (numV l i)) ∧ Chg (fun k => k = wb) w w' ∧ Blk w' wb #[.bool (b || !numB l i)] 4 := by
  have hT := take_any d D l ao cap i 0 b wb w h hD hb hi
  obtain ⟨n, hn⟩ : ∃ n, n = l.length := ⟨_, rfl⟩
  rw [← hn] at hT ⊢
  clear hn h hb
  unfold tkF at ht
  unfold TakeR at hT
  obtain ⟨it, hit⟩ : ∃ x, x = tkI l i 0 := ⟨_, rfl⟩
  obtain ⟨tk, htk⟩ : ∃ t, t = tkB l i 0 := ⟨_, rfl⟩
  obtain ⟨v, hv⟩ : ∃ v, v = it.num := ⟨_, rfl⟩
  have hg : numV l i = IntKind.u32.wrap v := by rw [numV, tkN, hv, hit]
  obtain ⟨bt, hbt⟩ : ∃ x, x = (b || !tk) := ⟨_, rfl⟩
  have hg2 : (b || !numB l i) = (bt || decide (v < 0) || decide (4294967295 < v)) := by
    rw [numB, tkN, ← htk, ← hit, ← hv, hbt]
    cases b <;> cases tk <;> simp <;> (try (rw [Bool.eq_iff_iff]; simp only [Bool.or_eq_true, Bool.not_eq_true', decide_eq_true_eq, decide_eq_false_iff_not]; omega))
  rw [hg, hg2]
  rw [← hit, ← htk, ← hbt, ← hv] at hT
  clear hit htk hv hg hg2 hbt
  go_enter Try.func26, Try.ntmps26
  go_wp2_with (go_at_call 25; refine Shut.out ?kt)
  unfold Shut
  refine hT.mono ?_
  rintro e w1 ⟨p, hp, rfl, hz, _, _, hch, hB⟩
  clear hT ht hp
  have hz := wf_i64 hz
  dsimp only
  have cw : w1.cell? ⟨wb, 0, none⟩ = some (.bool bt) := hB.cellAt rfl
  have fw := hB.frozen 0
  have hout := fun (u : Bool) => hB.set 0 (.bool u)
  have hch2 := fun (u : Bool) => hch.setCell ⟨wb, 0, none⟩ (.bool u) (fun _ => rfl)
  cases bt with
  | true =>
    go_wp2_with fail
    go_ret
    exact ⟨rfl, hch2 _, by simpa using hout true⟩
  | false =>
    by_cases h1 : v < 0
    · go_wp2_with fail
      go_ret
      refine ⟨rfl, hch2 _, ?_⟩
      have : decide (v < 0) = true := by simpa using h1
      simpa [this] using hout true
    · by_cases h2 : 4294967295 < v
      · go_wp2_with fail
        go_ret
        refine ⟨rfl, hch2 _, ?_⟩
        have e2 : decide (4294967295 < v) = true := by simpa using h2
        simpa [e2] using hout true
      · go_wp2_with fail
        go_ret
        refine ⟨by rw [wrap_in (by omega) (by omega)]; rfl, hch2 _, ?_⟩
        have e1 : decide (v < 0) = false := by simpa using h1
        have e2 : decide (4294967295 < v) = false := by simpa using h2
        simpa [e1, e2] using hout false
end Go.Proofs.Ytcigbobihkkdiaa
