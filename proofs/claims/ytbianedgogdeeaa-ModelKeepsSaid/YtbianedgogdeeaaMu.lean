/- Model: the example's graph, and the example. -/
import Derived.Test.YtbianedgogdeeaaMt
namespace Go.Proofs.Ytbianedgogdeeaa
open Go.RowKit Go.Maps Fold Go.Lib
attribute [local go_sem] Oper.semAt_some
set_option linter.unusedVariables false
set_option linter.unusedSimpArgs false

def sumsOps (arg : Int) : List TOp := [⟨1, [], -1, 0, 0, 0, 0⟩, ⟨4, [0], arg, 0, 0, 0, 0⟩, ⟨8, [1], 0, 0, 0, 0, 0⟩]
def sumsCells (i1 i2 : Nat) (arg : Int) : Array Value :=
  #[.int .i64 1, .slice none 0 0, .int .i64 (-1), .int .u32 0, .int .i64 0, .int .i64 0, .int .u32 0,
    .int .i64 4, .slice (some ⟨i1, 0, none⟩) 1 1, .int .i64 arg, .int .u32 0, .int .i64 0, .int .i64 0, .int .u32 0,
    .int .i64 8, .slice (some ⟨i2, 0, none⟩) 1 1, .int .i64 0, .int .u32 0, .int .i64 0, .int .i64 0, .int .u32 0]
structure SumsAt (w : World) (base gb i1 i2 : Nat) (arg : Int) : Prop where
  ops : Blk w gb (sumsCells i1 i2 arg) 51
  in1 : Blk w i1 #[.int .i64 0] 3
  in2 : Blk w i2 #[.int .i64 1] 3
  b0 : base ≤ gb
  b1 : base ≤ i1
  b2 : base ≤ i2
namespace SumsAt
variable {w w' : World} {base gb i1 i2 : Nat} {arg : Int}
theorem below (h : SumsAt w base gb i1 i2 arg) (hb : Below w.heap.size w w') : SumsAt w' base gb i1 i2 arg := ⟨h.ops.below hb h.ops.lt, h.in1.below hb h.in1.lt, h.in2.below hb h.in2.lt, h.b0, h.b1, h.b2⟩
theorem sla (h : SumsAt w base gb i1 i2 arg) (ha : (Lit.int .i64 arg).wf = true) : SlA w.heap.size 7 (ROp w.heap.size) w (some ⟨gb, 0, none⟩) 3 (sumsOps arg) := by
  have hz : (Lit.int .i64 0).wf = true := rfl
  have hu : (Lit.int .u32 0).wf = true := rfl
  refine SlA.of_blk h.ops h.ops.lt (Nat.le_refl 3) (by unfold maxLen; omega) (fun i hi => ?_)
  have hi3 : i < 3 := hi
  have hc : i = 0 ∨ i = 1 ∨ i = 2 := by omega
  rcases hc with rfl | rfl | rfl
  · refine ⟨[.int .i64 1, .slice none 0 0, .int .i64 (-1), .int .u32 0, .int .i64 0, .int .i64 0, .int .u32 0], rfl, fun j hj => ?_, none, 0, rfl, rfl, SlA.nil _ _ _ _, rfl, hu, hz, hz, hu⟩
    match j, hj with
    | 0, _ | 1, _ | 2, _ | 3, _ | 4, _ | 5, _ | 6, _ => rfl
  · refine ⟨[.int .i64 4, .slice (some ⟨i1, 0, none⟩) 1 1, .int .i64 arg, .int .u32 0, .int .i64 0, .int .i64 0, .int .u32 0], rfl, fun j hj => ?_, some ⟨i1, 0, none⟩, 1, rfl, rfl, ?_, ha, hu, hz, hz, hu⟩
    · match j, hj with
      | 0, _ | 1, _ | 2, _ | 3, _ | 4, _ | 5, _ | 6, _ => rfl
    · exact SlA.of_blk1 h.in1 h.in1.lt (Nat.le_refl _) (by unfold maxLen; simp) (fun i hi => by
        obtain rfl : i = 0 := Nat.lt_one_iff.1 hi
        exact ⟨rfl, rfl⟩)
  · refine ⟨[.int .i64 8, .slice (some ⟨i2, 0, none⟩) 1 1, .int .i64 0, .int .u32 0, .int .i64 0, .int .i64 0, .int .u32 0], rfl, fun j hj => ?_, some ⟨i2, 0, none⟩, 1, rfl, rfl, ?_, hz, hu, hz, hz, hu⟩
    · match j, hj with
      | 0, _ | 1, _ | 2, _ | 3, _ | 4, _ | 5, _ | 6, _ => rfl
    · exact SlA.of_blk1 h.in2 h.in2.lt (Nat.le_refl _) (by unfold maxLen; simp) (fun i hi => by
        obtain rfl : i = 0 := Nat.lt_one_iff.1 hi
        exact ⟨rfl, rfl⟩)
end SumsAt

set_option maxRecDepth 100000 in
set_option maxHeartbeats 1000000 in
theorem sums_any (w : World) : Calls Try.prog 20 #[] w fun e w' => ∃ gb i1 i2, e = .returned (.agg #[.slice (some ⟨gb, 0, none⟩) 3 3]) ∧ SumsAt w' w.heap.size gb i1 i2 0 ∧ Below w.heap.size w w' := by
  go_enter Try.func20, Try.ntmps20
  go_wp2_with fail
  have e1 := World.size_alloc w (.cells #[.slice (some ⟨w.heap.size + 1 + 1 + 1, 0, none⟩) 3 3] 24)
  have e2 := World.size_alloc (w.alloc (.cells #[.slice (some ⟨w.heap.size + 1 + 1 + 1, 0, none⟩) 3 3] 24)) (.cells #[.int .i64 0] 3)
  have e3 := World.size_alloc ((w.alloc (.cells #[.slice (some ⟨w.heap.size + 1 + 1 + 1, 0, none⟩) 3 3] 24)).alloc (.cells #[.int .i64 0] 3)) (.cells #[.int .i64 1] 3)
  rw [e1] at e2
  rw [e2] at e3
  have hC := (((Blk.new w #[.slice (some ⟨w.heap.size + 1 + 1 + 1, 0, none⟩) 3 3] 24).alloc (.cells #[.int .i64 0] 3)).alloc (.cells #[.int .i64 1] 3)).alloc (.cells (sumsCells (w.heap.size + 1) (w.heap.size + 1 + 1) 0) 51)
  have h1 := ((Blk.new (w.alloc (.cells #[.slice (some ⟨w.heap.size + 1 + 1 + 1, 0, none⟩) 3 3] 24)) #[.int .i64 0] 3).alloc (.cells #[.int .i64 1] 3)).alloc (.cells (sumsCells (w.heap.size + 1) (w.heap.size + 1 + 1) 0) 51)
  have h2 := (Blk.new ((w.alloc (.cells #[.slice (some ⟨w.heap.size + 1 + 1 + 1, 0, none⟩) 3 3] 24)).alloc (.cells #[.int .i64 0] 3)) #[.int .i64 1] 3).alloc (.cells (sumsCells (w.heap.size + 1) (w.heap.size + 1 + 1) 0) 51)
  have h3 := Blk.new (((w.alloc (.cells #[.slice (some ⟨w.heap.size + 1 + 1 + 1, 0, none⟩) 3 3] 24)).alloc (.cells #[.int .i64 0] 3)).alloc (.cells #[.int .i64 1] 3)) (sumsCells (w.heap.size + 1) (w.heap.size + 1 + 1) 0) 51
  rw [e1] at h1
  rw [e2] at h2
  rw [e3] at h3
  refine bodyPost_ret (results_cell_row rfl _ _ w.heap.size 24 _ (0, 0) _ rfl hC Try.underlying24 rfl (by kernel_rfl)) rfl ?_
  exact ⟨_, _, _, rfl, ⟨h3, h1, h2, by omega, by omega, by omega⟩, (by repeat (first | exact Below.refl _ _ | refine below_drewN ?_ _ | refine Below.drew ?_ | (refine Below.alloc ?_ (by simp; try omega) _)))⟩

/-- The records' pairs. -/
def recP (r : TRecord) : PR := (r.fKey, r.fVal.toNat)
theorem gcheck_sums {arg : Int} (h0 : 0 ≤ arg) (h6 : arg ≤ 6) : gcheck (sumsOps arg) = (0, 0) := by
  have : arg = 0 ∨ arg = 1 ∨ arg = 2 ∨ arg = 3 ∨ arg = 4 ∨ arg = 5 ∨ arg = 6 := by omega
  rcases this with rfl | rfl | rfl | rfl | rfl | rfl | rfl <;> decide
theorem foldOut_len (w : Int) (l kept : PRS) : (foldOut w l kept).length ≤ l.length := by
  unfold foldOut
  rw [List.length_map]
  exact len_keysK l
theorem runF_sums (arg : Int) (s : ST) (recs : List TRecord) (hr : recs.length ≤ 512) : runF s recs (sumsOps arg) [] [] = some ([recs.map recP, foldOut arg (recs.map recP) (keptAt s 1), foldOut arg (recs.map recP) (keptAt s 1)], [[], foldKeep arg (recs.map recP) (keptAt s 1), []]) := by
  have e0 : ∀ (a b k : PRS), opOut ⟨1, [], -1, 0, 0, 0, 0⟩ a b k recs = recs.map recP := fun a b k => by
    unfold opOut
    rw [if_pos rfl]
    have : srcP ⟨1, [], -1, 0, 0, 0, 0⟩ = fun r => some (recP r) := by funext r; simp [srcP, recP]
    rw [this]
    show List.filterMap (some ∘ recP) recs = _
    rw [List.filterMap_eq_map]
  have hl := foldOut_len arg (recs.map recP) (keptAt s 1)
  rw [List.length_map] at hl
  have e2 : ∀ (a b k : PRS), opOut ⟨8, [1], 0, 0, 0, 0, 0⟩ a b k recs = a := fun a b k => by
    unfold opOut
    rw [if_neg (by decide), if_neg (by decide), if_neg (by decide), if_neg (by decide)]
    have : oneP ⟨8, [1], 0, 0, 0, 0, 0⟩ = some := by funext p; simp [oneP]
    rw [this, List.filterMap_some]
  unfold sumsOps
  rw [runF, e0, if_neg (by rw [List.length_map]; omega), runF]
  have e1 : opOut ⟨4, [0], arg, 0, 0, 0, 0⟩ (inAt ([] ++ [recs.map recP]) ⟨4, [0], arg, 0, 0, 0, 0⟩ 0) (inAt ([] ++ [recs.map recP]) ⟨4, [0], arg, 0, 0, 0, 0⟩ 1) (keptAt s ([] ++ [recs.map recP] : List PRS).length) recs = foldOut arg (recs.map recP) (keptAt s 1) := by
    unfold opOut
    rw [if_neg (show ¬ (4 : Int) = 1 by decide), if_neg (show ¬ (4 : Int) = 6 by decide), if_pos rfl]
    rfl
  rw [e1, if_neg (by omega), runF, e2]
  have e3 : inAt ([] ++ [recs.map recP] ++ [foldOut arg (recs.map recP) (keptAt s 1)]) ⟨8, [1], 0, 0, 0, 0, 0⟩ 0 = foldOut arg (recs.map recP) (keptAt s 1) := rfl
  rw [e3, if_neg (by omega), runF]
  simp [opKeep, inAt]
theorem runM_sums {arg : Int} (h0 : 0 ≤ arg) (h6 : arg ≤ 6) (s : ST) (recs : List TRecord) (hg : goodS (sumsOps arg) s = true) (hr : recs.length ≤ 512) : runM (sumsOps arg) s recs = (sortP (foldOut arg (recs.map recP) (keptAt s 1)), [[], foldKeep arg (recs.map recP) (keptAt s 1), []], 0) := by
  unfold runM
  rw [gcheck_sums h0 h6, if_neg (by decide), if_neg (by rw [hg]; simp), if_neg (by omega), runF_sums arg s recs hr]
  rfl
theorem goodS_nil (ops : List TOp) : goodS ops [] = true := by rw [goodS_eq]; rfl

def recsK : List TRecord := [⟨0, 0, 0, ⟨#[97]⟩, 1⟩, ⟨0, 0, 0, ⟨#[98]⟩, 2⟩, ⟨0, 0, 0, ⟨#[97]⟩, 3⟩]
theorem sums_known : runM (sumsOps 0) [] recsK = ([(⟨#[97]⟩, 4), (⟨#[98]⟩, 2)], [[], [(⟨#[97]⟩, 4), (⟨#[98]⟩, 2)], []], 0) := by
  rw [runM_sums (by decide) (by decide) _ _ (goodS_nil _) (by decide)]
  have h1 : foldOut 0 (recsK.map recP) (keptAt [] 1) = [(⟨#[98]⟩, 2), (⟨#[97]⟩, 4)] := by decide +kernel
  have h2 : foldKeep 0 (recsK.map recP) (keptAt [] 1) = [(⟨#[97]⟩, 4), (⟨#[98]⟩, 2)] := by decide +kernel
  have h3 : sortP [(⟨#[98]⟩, 2), (⟨#[97]⟩, 4)] = [(⟨#[97]⟩, 4), (⟨#[98]⟩, 2)] := (sortP_eq (List.Perm.swap _ _ _) (by decide +kernel)).symm
  rw [h1, h2, h3]
end Go.Proofs.Ytbianedgogdeeaa
