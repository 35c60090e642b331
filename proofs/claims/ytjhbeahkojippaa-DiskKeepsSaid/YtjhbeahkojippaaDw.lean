/- Disk: DiskKeeps: its arguments. -/
import Derived.Test.YtjhbeahkojippaaDv
import Derived.Test.YtjhbeahkojippaaDq
namespace Go.Proofs.Ytjhbeahkojippaa
open Go.RowKit Go.ChangeShapes Go.WideShapes
set_option linter.unusedVariables false
theorem keeps_row {w : World} (a1 : Option Addr) (len1 cap1 : Nat) (x1 : List UInt8) (h1 : RSl w.heap.size 1 EU w (Value.cells (.slice a1 len1 cap1)).toList x1) (z1 : cap1 * 1 ≤ reachBytes)
    (a2 : Option Addr) (len2 cap2 : Nat) (x2 : List Int) (h2 : RSl w.heap.size 1 (RI .i64) w (Value.cells (.slice a2 len2 cap2)).toList x2) (z2 : cap2 * 8 ≤ reachBytes) :
    Calls Try.prog 5 #[.slice a1 len1 cap1, .slice a2 len2 cap2] w fun e w' => e = .returned (.bool true) ∧ Below w.heap.size w w' := by
  obtain ⟨b1, c1, e1, s1⟩ := h1
  obtain ⟨rfl, rfl, rfl⟩ : a1 = b1 ∧ len1 = x1.length ∧ cap1 = c1 := by simpa [Value.cells] using e1
  obtain ⟨b2, c2, e2, s2⟩ := h2
  obtain ⟨rfl, rfl, rfl⟩ : a2 = b2 ∧ len2 = x2.length ∧ cap2 = c2 := by simpa [Value.cells] using e2
  have hl := s2.1
  have : reachBytes = 140737488351232 := by decide
  exact keeps_any a1 cap1 x1 a2 cap2 x2 w s1 s2 (by omega)
end Go.Proofs.Ytjhbeahkojippaa
