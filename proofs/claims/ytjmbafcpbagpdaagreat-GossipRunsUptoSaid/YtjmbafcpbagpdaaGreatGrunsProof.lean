/- GossipRuns: for every input the law returns true, and every argument reads behind the call as it read before. Where the arguments together are of bulk at most 1048576 (the given narrowed form). -/
import Derived.Test.YtjmbafcpbagpdaaGreatRows
import Derived.Test.YtjmbafcpbagpdaaGreatHa
import Derived.WalkKit
import Derived.ProofKit
import Derived.OpenShut
import Derived.ShutString
import Derived.ChangeOld
import Derived.Below
import Derived.JoinedCond
import Derived.Test.YtjmbafcpbagpdaaGreatBulk
namespace Go.Proofs.YtjmbafcpbagpdaaGreat
open Go.RowKit Go.Maps
set_option linter.unusedVariables false
set_option linter.unusedSimpArgs false

theorem gruns_row {w : World} (cs : Array Value) (x : TCaseG) (hx : RCaseB w.heap.size w (Value.cells (.agg cs)).toList x)
    (a1 : Option Addr) (len1 cap1 : Nat) (l1 : List TStepG) (hl1 : RSl w.heap.size 4 (RStepG w.heap.size) w (Value.cells (.slice a1 len1 cap1)).toList l1)
    (a2 : Option Addr) (len2 cap2 : Nat) (l2 : List TStamp) (hl2 : RSl w.heap.size 3 (RStamp w.heap.size) w (Value.cells (.slice a2 len2 cap2)).toList l2) :
    Calls Tryz.prog 3 #[.agg cs, .slice a1 len1 cap1, .slice a2 len2 cap2] w fun e w' => e = .returned (.bool true) ∧ Below w.heap.size w w' := by
  obtain ⟨ao, cap, ba, bc, h1, h2, h3, h4, h5, h6⟩ := hx
  obtain rfl : cs = #[.slice ao x.ops.length cap, .int .i64 x.k, .slice ba x.b.length bc] := by cases cs; simpa [Value.cells] using h1
  obtain ⟨b1, c1, q1, q2⟩ := hl1
  obtain ⟨rfl, rfl, rfl⟩ : a1 = b1 ∧ len1 = l1.length ∧ cap1 = c1 := by simpa [Value.cells] using q1
  obtain ⟨b2, c2, r1, r2⟩ := hl2
  obtain ⟨rfl, rfl, rfl⟩ : a2 = b2 ∧ len2 = l2.length ∧ cap2 = c2 := by simpa [Value.cells] using r1
  exact gruns_walk x.ops cap ao x.k x.b ba bc l1 a1 cap1 l2 a2 cap2 w h2 h3 h4 h5 q2 r2
end Go.Proofs.YtjmbafcpbagpdaaGreat

namespace Go.Proofs.YtjmbafcpbagpdaaGreat.gossipRuns
open Go.ChangeShapes Go.WideShapes Go.ChangeAt Go.RowKit
open Go.ChangeMaps (open_string shut_string)
set_option linter.unusedVariables false

theorem own : ownKnob Tryz.prog.godebug = none := by kernel_rfl
theorem laidOut : laidOutB Tryz.prog = true := by kernel_rfl



set_option maxRecDepth 100000 in
theorem lifted (os : Os) (started : os.Started) (H : Type) (enc : TypeId × Value → H) (F : Stop.Interp) :
    ReturnsInHanded {} Tryz.checked os 3 .any ((Rows.OpenSpec.upto Rows.gossipRunsSpec).pre6 enc Tryz.prog Tryz.f3 Rows.gossipRunsUptoRow.domain false) (((Rows.OpenSpec.upto Rows.gossipRunsSpec).at F).post enc Tryz.prog Tryz.f3 false true false false) := by
  refine returnsInHanded_of_cond (C := Tryz.checked) (s := Rows.OpenSpec.upto Rows.gossipRunsSpec) (k := Rows.uptoSmall) rfl own started (by kernel_rfl) Tryz.func3
    (OpenSpec.witness (enc := enc) (C := Tryz.checked) (s := Rows.OpenSpec.upto Rows.gossipRunsSpec) (k := Rows.uptoSmall) rfl false ⟨#[], #[.agg #[.slice none 0 0, .int .i64 0, .slice none 0 0], .slice none 0 0, .slice none 0 0], []⟩ 8 (by kernel_rfl) (by kernel_rfl) (by kernel_rfl)
      (x := ([.agg [.agg [.nil], .lit (.int .i64 0), .nil], .nil, .nil], [], [])) (by kernel_rfl) rfl (by kernel_rfl)) ?_
  intro W base args ds gs before hval0 hW hcnd hk _
  have hval : ∀ (j : Nat) t v, Tryz.f3.params[j]? = some t → args[j]? = some v → Value.okWide Tryz.prog W .any base t v := hval0
  have hW' := hW
  obtain ⟨p, q, hA0, hV, rfl, hfz, hnd⟩ := hW
  have hA : DataW.TrodAll enc Tryz.prog W 0 (fun _ => true) true Tryz.f3.params.toList args.toList ds p := hA0
  rw [Tryz.params3] at hA hval
  obtain ⟨v0, vs0, d0, ds0, p0, q0, hargs, rfl, rfl, h0, r0⟩ := trodAll_cons hA
  obtain ⟨v1, vs1, d1, ds1, p1, q1, rfl, rfl, rfl, h1, r1⟩ := trodAll_cons r0
  obtain ⟨v2, vs2, d2, ds2, p2, q2, rfl, rfl, rfl, h2, r2⟩ := trodAll_cons r1
  obtain ⟨rfl, rfl, rfl⟩ := trodAll_nil r2
  obtain rfl : args = #[v0, v1, v2] := by cases args; simp_all
  obtain ⟨rfl, rfl⟩ := trodVars_none hV
  obtain ⟨cs0, rfl, _⟩ := okWide_struct Tryz.underlying27 (hval 0 27 v0 rfl rfl)
  have k0 := h0
  have lt0 : ∀ x ∈ p0, x.block < W.heap.size := by obtain ⟨m, hm⟩ := k0; exact DataW.trod_lt m _ _ _ hm
  obtain ⟨x0, hx0⟩ : ∃ x, RCaseB W.heap.size W (Value.cells (.agg cs0)).toList x := by
    obtain ⟨fuel, hf⟩ := h0
    have hb : Rows.uptoBulkAll [d0, d1, d2] ≤ 1048576 := of_decide_eq_true hk
    have hp := bulk_part (d := d0) (l := [d0, d1, d2]) (by simp)
    exact case_bulk hf lt0 (Nat.le_trans hp hb)
  obtain ⟨a1, len1, cap1, rfl⟩ := okWide_slice Tryz.underlying28 (hval 1 28 v1 rfl rfl)
  have k1 := h1
  have lt1 : ∀ x ∈ p1, x.block < W.heap.size := by obtain ⟨m, hm⟩ := k1; exact DataW.trod_lt m _ _ _ hm
  obtain ⟨x1, hx1⟩ : ∃ x, (RSl W.heap.size 4 (RStepG W.heap.size)) W (Value.cells (.slice a1 len1 cap1)).toList x := by
    obtain ⟨fuel, hf⟩ := h1
    have hb : Rows.uptoBulkAll [d0, d1, d2] ≤ 1048576 := of_decide_eq_true hk
    have hp := bulk_part (d := d1) (l := [d0, d1, d2]) (by simp)
    exact steps_bulk hf lt1 (Nat.le_trans hp hb)
  obtain ⟨a2, len2, cap2, rfl⟩ := okWide_slice Tryz.underlying29 (hval 2 29 v2 rfl rfl)
  have k2 := h2
  have lt2 : ∀ x ∈ p2, x.block < W.heap.size := by obtain ⟨m, hm⟩ := k2; exact DataW.trod_lt m _ _ _ hm
  obtain ⟨x2, hx2⟩ : ∃ x, (RSl W.heap.size 3 (RStamp W.heap.size)) W (Value.cells (.slice a2 len2 cap2)).toList x := by
    obtain ⟨fuel, hf⟩ := h2
    exact RSl.of_trod (sz := 3) Tryz.underlying29 (by kernel_rfl) (by decide) hf lt2 (fun n cs y h hp => RStamp.of_trod h hp)
  clear hA0 hval0
  refine (gruns_row (w := W) cs0 x0 hx0 a1 len1 cap1 x1 hx1 a2 len2 cap2 x2 hx2).mono fun e W' ⟨he, bel⟩ => ?_
  subst he
  exact ⟨_, rfl, _, _, _, [], _, [], hW', trodAll_mk1 (shut_bool Tryz.underlying4 _), (trodAll_cons_mk (Below.trod laidOut (by kernel_rfl) (of_decide_eq_true (by kernel_rfl)) k0 bel lt0) (trodAll_cons_mk (Below.trod laidOut (by kernel_rfl) (of_decide_eq_true (by kernel_rfl)) k1 bel lt1) (trodAll_cons_mk (Below.trod laidOut (by kernel_rfl) (of_decide_eq_true (by kernel_rfl)) k2 bel lt2) trodAll_mk0))), rfl, bel.frame _, fun h => by cases h⟩

theorem over : Rows.GossipRunsUptoSaid :=
  OpenClaim.holds_of_cond 3 Tryz.f3 rfl rfl rfl rfl rfl rfl rfl ⟨rfl, rfl, rfl, rfl, rfl⟩ rfl rfl rfl rfl rfl (by kernel_rfl) Tryz.func3 (by kernel_rfl)
    (of_decide_eq_true (by kernel_rfl)) (by unfold Func.isWrapper; first | (rw [if_pos (by decide +kernel)]; kernel_rfl) | (rw [if_neg (by decide +kernel)]; exact ⟨rfl, rfl⟩))
    (fun os started H enc _ F => lifted os started H enc F)

theorem proved : Rows.GossipRunsUptoSaid := over
end Go.Proofs.YtjmbafcpbagpdaaGreat.gossipRuns
