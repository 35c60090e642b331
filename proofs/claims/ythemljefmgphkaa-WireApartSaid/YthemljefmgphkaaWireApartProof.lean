/- WireApart: for every input the law returns true, and every argument reads behind the call as it read before. No condition of our own. -/
import Derived.Test.YthemljefmgphkaaRows
import Derived.Test.YthemljefmgphkaaWap
import Derived.WalkKit
import Derived.ProofKit
import Derived.OpenShut
import Derived.ShutString
import Derived.ChangeOld
import Derived.Below
import Derived.SizedLaws
import Derived.Test.YthemljefmgphkaaBaseG
namespace Go.Proofs.Ythemljefmgphkaa.wireApart
open Go.ChangeShapes Go.WideShapes Go.ChangeAt Go.RowKit
open Go.ChangeMaps (open_string shut_string)
set_option linter.unusedVariables false

theorem own : ownKnob Try.prog.godebug = none := by kernel_rfl
theorem laidOut : laidOutB Try.prog = true := by kernel_rfl

theorem by0 : Try.prog.bytesOf 33 = 56 := by kernel_rfl
theorem by1 : Try.prog.bytesOf 33 = 56 := by kernel_rfl

set_option maxRecDepth 100000 in
theorem lifted (os : Os) (started : os.Started) (H : Type) (enc : TypeId × Value → H) :
    ReturnsInHanded {} Try.checked os 5 .any (Rows.wireApartSpec.pre6 enc Try.prog Try.f5 Rows.wireApartRow.domain false) (Rows.wireApartSpec.post enc Try.prog Try.f5 false true false false) := by
  refine returnsInHanded_of_change_sized (C := Try.checked) own started (by kernel_rfl) Try.func5
    (ChangeSpec.witness6 (enc := enc) (C := Try.checked) false ⟨#[], #[.slice none 0 0, .slice none 0 0], []⟩ 8 (by kernel_rfl) (by kernel_rfl) (by kernel_rfl) (by kernel_rfl)) ?_
  intro W base args ds gs before hval0 hW hcnd hsz0 _
  have hsz : (DataW.weightsEach Try.prog (Try.f5.params.toList ++ Rows.wireApartSpec.plain.varTypes Try.prog) (ds ++ gs)).all (· ≤ reachBytes) = true := hsz0
  clear hsz0
  have hval : ∀ (j : Nat) t v, Try.f5.params[j]? = some t → args[j]? = some v → Value.okWide Try.prog W .any base t v := hval0
  have hW' := hW
  obtain ⟨p, q, hA0, hV, rfl, hfz, hnd⟩ := hW
  have hA : DataW.TrodAll enc Try.prog W 0 (fun _ => true) true Try.f5.params.toList args.toList ds p := hA0
  rw [Try.params5] at hA hval hsz
  obtain ⟨v0, vs0, d0, ds0, p0, q0, hargs, rfl, rfl, h0, r0⟩ := trodAll_cons hA
  obtain ⟨v1, vs1, d1, ds1, p1, q1, rfl, rfl, rfl, h1, r1⟩ := trodAll_cons r0
  obtain ⟨rfl, rfl, rfl⟩ := trodAll_nil r1
  obtain rfl : args = #[v0, v1] := by cases args; simp_all
  obtain ⟨rfl, rfl⟩ := trodVars_none hV
  obtain ⟨a0, len0, cap0, rfl⟩ := okWide_slice Try.underlying22 (hval 0 22 v0 rfl rfl)
  have k0 := h0
  have lt0 : ∀ x ∈ p0, x.block < W.heap.size := by obtain ⟨m, hm⟩ := k0; exact DataW.trod_lt m _ _ _ hm
  obtain ⟨fuel0, hf0⟩ := h0
  obtain ⟨ao0, cp0, x0, e0, hx0⟩ := items_of_trod (B := W.heap.size) (fun _ => rfl) fuel0 hf0 lt0 (fun n hn => by have := List.all_eq_true.1 hsz _ (DataW.weights_mem_each (j := 0) rfl rfl n hn); exact (of_decide_eq_true this : n ≤ reachBytes))
  obtain ⟨rfl, rfl, rfl⟩ : a0 = ao0 ∧ len0 = x0.length ∧ cap0 = cp0 := by simpa [Value.cells] using e0
  have z0 : x0.length * 56 ≤ 140737488351232 := by
    have h2 : cap0 * Try.prog.bytesOf 33 ≤ reachBytes := slice_sized (j := 0) hsz rfl rfl Try.underlying22 hf0
    rw [by0] at h2
    have h3 := hx0.1.1
    exact Nat.le_trans (Nat.mul_le_mul_right 56 h3) h2
  obtain ⟨a1, len1, cap1, rfl⟩ := okWide_slice Try.underlying22 (hval 1 22 v1 rfl rfl)
  have k1 := h1
  have lt1 : ∀ x ∈ p1, x.block < W.heap.size := by obtain ⟨m, hm⟩ := k1; exact DataW.trod_lt m _ _ _ hm
  obtain ⟨fuel1, hf1⟩ := h1
  obtain ⟨ao1, cp1, x1, e1, hx1⟩ := items_of_trod (B := W.heap.size) (fun _ => rfl) fuel1 hf1 lt1 (fun n hn => by have := List.all_eq_true.1 hsz _ (DataW.weights_mem_each (j := 1) rfl rfl n hn); exact (of_decide_eq_true this : n ≤ reachBytes))
  obtain ⟨rfl, rfl, rfl⟩ : a1 = ao1 ∧ len1 = x1.length ∧ cap1 = cp1 := by simpa [Value.cells] using e1
  have z1 : x1.length * 56 ≤ 140737488351232 := by
    have h2 : cap1 * Try.prog.bytesOf 33 ≤ reachBytes := slice_sized (j := 1) hsz rfl rfl Try.underlying22 hf1
    rw [by1] at h2
    have h3 := hx1.1.1
    exact Nat.le_trans (Nat.mul_le_mul_right 56 h3) h2
  clear hA0 hval0
  refine (apart_row (w := W) hx0 z0 hx1 z1).mono fun e W' ⟨he, bel⟩ => ?_
  subst he
  exact ⟨_, rfl, _, _, _, [], _, [], hW', trodAll_mk1 (shut_bool Try.underlying4 _), (trodAll_cons_mk (Below.trod laidOut (by kernel_rfl) (of_decide_eq_true (by kernel_rfl)) k0 bel lt0) (trodAll_cons_mk (Below.trod laidOut (by kernel_rfl) (of_decide_eq_true (by kernel_rfl)) k1 bel lt1) trodAll_mk0)), rfl, bel.frame _, fun h => by cases h⟩

theorem over : Rows.wireApartRow.holds Try.pinned (OpenSpec.ofChange Rows.wireApartSpec) :=
  OpenClaim.holds_of_wide 5 Try.f5 rfl rfl rfl rfl rfl rfl rfl ⟨rfl, rfl, rfl, rfl, rfl⟩ rfl rfl rfl rfl rfl (by kernel_rfl) Try.func5 (by kernel_rfl)
    (of_decide_eq_true (by kernel_rfl)) (by unfold Func.isWrapper; first | (rw [if_pos (by decide +kernel)]; kernel_rfl) | (rw [if_neg (by decide +kernel)]; exact ⟨rfl, rfl⟩))
    (fun os started H enc _ => lifted os started H enc)

theorem proved : Rows.WireApartSaid := over
end Go.Proofs.Ythemljefmgphkaa.wireApart
