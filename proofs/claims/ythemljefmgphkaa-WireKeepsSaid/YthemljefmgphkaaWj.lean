/- Wire: Same of two rows of bytes of the call's own. -/
import Derived.Test.YthemljefmgphkaaWi
namespace Go.Proofs.Ythemljefmgphkaa
open Go.RowKit
set_option linter.unusedVariables false

set_option maxRecDepth 100000 in
theorem same_any {base1 base2 : Nat} {v1 v2 : Value} {bs1 bs2 : List Nat} (w : World) (h1 : OwnB w base1 v1 bs1) (h2 : OwnB w base2 v2 bs2) (hb1 : ∀ x ∈ bs1, x < 256) (hb2 : ∀ x ∈ bs2, x < 256) :
    Calls Try.prog 12 #[v1, v2] w fun e w' => e = .returned (.bool (decide (bs1 = bs2))) ∧ w' = w := by
  have c1 := own_text h1 hb1
  have c2 := own_text h2 hb2
  have he := toB_eq hb1 hb2
  clear h1 h2
  go_enter Try.func12, Try.ntmps12
  go_wp2_with fail
  go_ret
  refine ⟨?_, rfl⟩
  show Ending.returned (.bool ((toB bs1).toList == (toB bs2).toList)) = _
  have : ((toB bs1).toList == (toB bs2).toList) = decide (bs1 = bs2) := by
    by_cases hb : bs1 = bs2
    · rw [he.2 hb]; simp [hb]
    · have : ¬ ((toB bs1).toList == (toB bs2).toList) = true := fun h => hb (he.1 h)
      simp [hb]
      simpa using this
  rw [this]
end Go.Proofs.Ythemljefmgphkaa
