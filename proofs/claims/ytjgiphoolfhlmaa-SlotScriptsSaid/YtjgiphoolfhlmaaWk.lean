/- Wire: Int, Text. -/
import Derived.Test.YtjgiphoolfhlmaaWi
import Derived.Laws.Rows
namespace Go.Proofs.Ytjgiphoolfhlmaa
open Go.RowKit
set_option linter.unusedVariables false

theorem int_any (n : Int) (w : World) : Calls Try.prog 21 #[.int .i64 n] w fun e w' => e = .returned (.agg #[.int .i64 0, .int .i64 n, .string ⟨#[]⟩, .slice none 0 0]) ∧ Below w.heap.size w w' := by
  go_enter Try.func21, Try.ntmps21
  go_wp2_with fail
  refine bodyPost_ret (results_cell_row rfl _ _ w.heap.size 63 _ (0, 0) _ rfl (heap_alloc_new _ _) Try.underlying63 rfl (by kernel_rfl)) rfl ?_
  exact ⟨rfl, (by repeat (first | exact Below.refl _ _ | refine below_drewN ?_ _ | refine Below.drew ?_ | (refine Below.alloc ?_ (by simp; try omega) _)))⟩
theorem text_any (s : ByteArray) (w : World) : Calls Try.prog 22 #[.string s] w fun e w' => e = .returned (.agg #[.int .i64 1, .int .i64 0, .string s, .slice none 0 0]) ∧ Below w.heap.size w w' := by
  go_enter Try.func22, Try.ntmps22
  go_wp2_with fail
  refine bodyPost_ret (results_cell_row rfl _ _ w.heap.size 63 _ (0, 0) _ rfl (heap_alloc_new _ _) Try.underlying63 rfl (by kernel_rfl)) rfl ?_
  exact ⟨rfl, (by repeat (first | exact Below.refl _ _ | refine below_drewN ?_ _ | refine Below.drew ?_ | (refine Below.alloc ?_ (by simp; try omega) _)))⟩
end Go.Proofs.Ytjgiphoolfhlmaa
