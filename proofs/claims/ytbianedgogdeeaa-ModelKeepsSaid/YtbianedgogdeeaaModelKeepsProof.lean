/- ModelKeeps: for every input the law returns true, and every argument reads behind the call as it read before. No condition of our own. -/
import Derived.Test.YtbianedgogdeeaaRows
import Derived.Test.YtbianedgogdeeaaOa
import Derived.WalkKit
import Derived.ProofKit
import Derived.OpenShut
import Derived.ShutString
import Derived.ChangeOld
import Derived.Below
import Derived.SizedLaws
import Derived.Test.YtbianedgogdeeaaGsz
import Derived.Test.YtbianedgogdeeaaL1
namespace Go.Proofs.Ytbianedgogdeeaa.modelKeeps
open Go.ChangeShapes Go.WideShapes Go.ChangeAt Go.RowKit
open Go.ChangeMaps (open_string shut_string)
set_option linter.unusedVariables false

theorem own : ownKnob Try.prog.godebug = none := by kernel_rfl
theorem laidOut : laidOutB Try.prog = true := by kernel_rfl

theorem by2 : Try.prog.bytesOf 47 = 48 := by kernel_rfl

set_option maxRecDepth 100000 in
theorem lifted (os : Os) (started : os.Started) (H : Type) (enc : TypeId × Value → H) :
    ReturnsInHanded {} Try.checked os 7 .any (Rows.modelKeepsSpec.pre6 enc Try.prog Try.f7 Rows.modelKeepsRow.domain false) (Rows.modelKeepsSpec.post enc Try.prog Try.f7 false true false false) := by
  refine returnsInHanded_of_change_sized (C := Try.checked) own started (by kernel_rfl) Try.func7
    (ChangeSpec.witness6 (enc := enc) (C := Try.checked) false ⟨#[], #[.agg #[.slice none 0 0], .agg #[.slice none 0 0], .slice none 0 0], []⟩ 8 (by kernel_rfl) (by kernel_rfl) (by kernel_rfl) (by kernel_rfl)) ?_
  intro W base args ds gs before hval0 hW hcnd hsz0 _
  have hsz : (DataW.weightsEach Try.prog (Try.f7.params.toList ++ Rows.modelKeepsSpec.plain.varTypes Try.prog) (ds ++ gs)).all (· ≤ reachBytes) = true := hsz0
  clear hsz0
  have hval : ∀ (j : Nat) t v, Try.f7.params[j]? = some t → args[j]? = some v → Value.okWide Try.prog W .any base t v := hval0
  have hW' := hW
  obtain ⟨p, q, hA0, hV, rfl, hfz, hnd⟩ := hW
  have hA : DataW.TrodAll enc Try.prog W 0 (fun _ => true) true Try.f7.params.toList args.toList ds p := hA0
  rw [Try.params7] at hA hval hsz
  obtain ⟨v0, vs0, d0, ds0, p0, q0, hargs, rfl, rfl, h0, r0⟩ := trodAll_cons hA
  obtain ⟨v1, vs1, d1, ds1, p1, q1, rfl, rfl, rfl, h1, r1⟩ := trodAll_cons r0
  obtain ⟨v2, vs2, d2, ds2, p2, q2, rfl, rfl, rfl, h2, r2⟩ := trodAll_cons r1
  obtain ⟨rfl, rfl, rfl⟩ := trodAll_nil r2
  obtain rfl : args = #[v0, v1, v2] := by cases args; simp_all
  obtain ⟨rfl, rfl⟩ := trodVars_none hV
  obtain ⟨cs0, rfl, _⟩ := okWide_struct Try.underlying24 (hval 0 24 v0 rfl rfl)
  have k0 := h0
  have lt0 : ∀ x ∈ p0, x.block < W.heap.size := by obtain ⟨m, hm⟩ := k0; exact DataW.trod_lt m _ _ _ hm
  obtain ⟨x0, hx0, hz0, hzi0⟩ : ∃ x, (RGraph W.heap.size) W (Value.cells (.agg cs0)).toList x ∧ x.fOps.length * 72 ≤ reachBytes ∧ ∀ o ∈ x.fOps, o.fIn.length * 8 ≤ reachBytes := by
    obtain ⟨fuel, hf⟩ := h0
    exact graph_sized hf lt0 (fun k hk => by
      have := List.all_eq_true.1 hsz k (DataW.weights_mem_each (j := 0) (t := 24) rfl rfl k hk)
      simpa using this)
  obtain ⟨cs1, rfl, _⟩ := okWide_struct Try.underlying27 (hval 1 27 v1 rfl rfl)
  have k1 := h1
  have lt1 : ∀ x ∈ p1, x.block < W.heap.size := by obtain ⟨m, hm⟩ := k1; exact DataW.trod_lt m _ _ _ hm
  obtain ⟨x1, hx1, hz1, hzi1⟩ : ∃ x, (RState W.heap.size) W (Value.cells (.agg cs1)).toList x ∧ x.fFolds.length * 24 ≤ reachBytes ∧ ∀ l ∈ x.fFolds, l.length * 24 ≤ reachBytes := by
    obtain ⟨fuel, hf⟩ := h1
    exact state_sized hf lt1 (fun k hk => by
      have := List.all_eq_true.1 hsz k (DataW.weights_mem_each (j := 1) (t := 27) rfl rfl k hk)
      simpa using this)
  obtain ⟨a2, len2, cap2, rfl⟩ := okWide_slice Try.underlying28 (hval 2 28 v2 rfl rfl)
  have k2 := h2
  have lt2 : ∀ x ∈ p2, x.block < W.heap.size := by obtain ⟨m, hm⟩ := k2; exact DataW.trod_lt m _ _ _ hm
  obtain ⟨x2, hx2⟩ : ∃ x, (RSl W.heap.size 5 (RRecord W.heap.size)) W (Value.cells (.slice a2 len2 cap2)).toList x := by
    obtain ⟨fuel, hf⟩ := h2
    exact RSl.of_trod (sz := 5) Try.underlying28 (by kernel_rfl) (by decide) hf lt2 (fun n cs y h hp => RRecord.of_trod h hp)
  have z2 : cap2 * Try.prog.bytesOf 47 ≤ reachBytes := by
    obtain ⟨fuel, hf⟩ := k2
    exact slice_sized (j := 2) hsz rfl rfl Try.underlying28 hf
  rw [by2] at z2
  clear hA0 hval0
  refine (mkeeps_row (w := W) cs0 x0 hx0 hz0 hzi0 cs1 x1 hx1 hz1 hzi1 a2 len2 cap2 x2 hx2 z2).mono fun e W' ⟨he, bel⟩ => ?_
  subst he
  exact ⟨_, rfl, _, _, _, [], _, [], hW', trodAll_mk1 (shut_bool Try.underlying4 _), (trodAll_cons_mk (Below.trod laidOut (by kernel_rfl) (of_decide_eq_true (by kernel_rfl)) k0 bel lt0) (trodAll_cons_mk (Below.trod laidOut (by kernel_rfl) (of_decide_eq_true (by kernel_rfl)) k1 bel lt1) (trodAll_cons_mk (Below.trod laidOut (by kernel_rfl) (of_decide_eq_true (by kernel_rfl)) k2 bel lt2) trodAll_mk0))), rfl, bel.frame _, fun h => by cases h⟩

theorem over : Rows.modelKeepsRow.holds Try.pinned (OpenSpec.ofChange Rows.modelKeepsSpec) :=
  OpenClaim.holds_of_wide 7 Try.f7 rfl rfl rfl rfl rfl rfl rfl ⟨rfl, rfl, rfl, rfl, rfl⟩ rfl rfl rfl rfl rfl (by kernel_rfl) Try.func7 (by kernel_rfl)
    (of_decide_eq_true (by kernel_rfl)) (by unfold Func.isWrapper; first | (rw [if_pos (by decide +kernel)]; kernel_rfl) | (rw [if_neg (by decide +kernel)]; exact ⟨rfl, rfl⟩))
    (fun os started H enc _ => lifted os started H enc)

theorem proved : Rows.ModelKeepsSaid := over
end Go.Proofs.Ytbianedgogdeeaa.modelKeeps
