/-
  No cell of these rows narrows 'for every input' (looked for: loops, veiled, ifaces, maps, wideKeys, modest, calm, conditions, laid).
  DERIVED. THE GIVEN ROWS OF THIS SEAT. 7 by the template 'for every input the law returns true; each argument reads behind the call as it read before'; 0 by the template 'total and deterministic' (their statements: YtbianedgogdeeaaTotals.lean).
  GIVEN WITH THE SEED: the statements are not yours to turn. If you find one false, say at which input.
  Laid BY PROGRAM, IN A SANDBOX (cutbox-rows.mjs): the forced cells as the released guide's own fill.sh prints them over the translation c128f4fe4dceb27a… (all of the seat's roots in one cut). By AI agents, Wed Nov 11 2026. No macro, syntax, notation, axiom, sorry.
-/
import Derived.Test.YtbianedgogdeeaaChecked
import GoSem.Claim
import GoSem.ClaimJoined
import GoSem.ClaimMapViews
import Derived.JoinedTies
import Derived.KernelRfl
namespace Go.Proofs.Ytbianedgogdeeaa
/- THE CELL 'sum', in the pinned program and in every row, IS THE sha256 OF THE DUMP (.gsa) THAT YtbianedgogdeeaaProg.lean LOADS. Nothing in Lean hashes anything: it is a label: what it is worth is what the hold of that sum in a sandbox is worth. -/
noncomputable def Try.pinned : Pinned := { name := "ytbianedgogdeeaa", sum := "c128f4fe4dceb27afe03dfbfc4190fb1f593c32b077a14cb298fd1ecd4a10817", checked := Try.checked }
namespace Rows
def none {H : Type} : Left H := { results := [], args := [] }

/-- 'millracelaw12.ModelRuns': WHATEVER THE INPUT: true; the input reads as it did. -/
def modelRunsSpec : ChangeSpec := { name := "modelRuns", fn := fun _ => fun
  | [d1, d2, d3] => { results := [.lit (.bool true)], args := [d1, d2, d3] }
  | _ => none }
def modelRunsRow : OpenClaim := { program := "ytbianedgogdeeaa", sum := "c128f4fe4dceb27afe03dfbfc4190fb1f593c32b077a14cb298fd1ecd4a10817", func := "millrace/millracelaw12.ModelRuns", spec := "modelRuns", unfollowed := true, recurses := true, apart := false }
def ModelRunsSaid : Prop := modelRunsRow.holds Try.pinned (OpenSpec.ofChange modelRunsSpec)

/-- ITS FALSE NEIGHBOUR: 'it returns false'. Refute it at one input. -/
def modelRunsWrong : ChangeSpec := { name := "modelRuns", fn := fun _ => fun
  | [d1, d2, d3] => { results := [.lit (.bool false)], args := [d1, d2, d3] }
  | _ => none }
def ModelRunsWrongFalsely : Prop := modelRunsRow.holds Try.pinned (OpenSpec.ofChange modelRunsWrong)

/-- 'millracelaw12.ModelForms': WHATEVER THE INPUT: true; the input reads as it did. -/
def modelFormsSpec : ChangeSpec := { name := "modelForms", fn := fun _ => fun
  | [d1, d2, d3] => { results := [.lit (.bool true)], args := [d1, d2, d3] }
  | _ => none }
def modelFormsRow : OpenClaim := { program := "ytbianedgogdeeaa", sum := "c128f4fe4dceb27afe03dfbfc4190fb1f593c32b077a14cb298fd1ecd4a10817", func := "millrace/millracelaw12.ModelForms", spec := "modelForms", unfollowed := true, recurses := true, apart := false }
def ModelFormsSaid : Prop := modelFormsRow.holds Try.pinned (OpenSpec.ofChange modelFormsSpec)

/-- ITS FALSE NEIGHBOUR: 'it returns false'. Refute it at one input. -/
def modelFormsWrong : ChangeSpec := { name := "modelForms", fn := fun _ => fun
  | [d1, d2, d3] => { results := [.lit (.bool false)], args := [d1, d2, d3] }
  | _ => none }
def ModelFormsWrongFalsely : Prop := modelFormsRow.holds Try.pinned (OpenSpec.ofChange modelFormsWrong)

/-- 'millracelaw12.ModelOrders': WHATEVER THE INPUT: true; the input reads as it did. -/
def modelOrdersSpec : ChangeSpec := { name := "modelOrders", fn := fun _ => fun
  | [d1, d2, d3] => { results := [.lit (.bool true)], args := [d1, d2, d3] }
  | _ => none }
def modelOrdersRow : OpenClaim := { program := "ytbianedgogdeeaa", sum := "c128f4fe4dceb27afe03dfbfc4190fb1f593c32b077a14cb298fd1ecd4a10817", func := "millrace/millracelaw12.ModelOrders", spec := "modelOrders", unfollowed := true, recurses := true, apart := false }
def ModelOrdersSaid : Prop := modelOrdersRow.holds Try.pinned (OpenSpec.ofChange modelOrdersSpec)

/-- ITS FALSE NEIGHBOUR: 'it returns false'. Refute it at one input. -/
def modelOrdersWrong : ChangeSpec := { name := "modelOrders", fn := fun _ => fun
  | [d1, d2, d3] => { results := [.lit (.bool false)], args := [d1, d2, d3] }
  | _ => none }
def ModelOrdersWrongFalsely : Prop := modelOrdersRow.holds Try.pinned (OpenSpec.ofChange modelOrdersWrong)

/-- 'millracelaw12.ModelEpochs': WHATEVER THE INPUT: true; the input reads as it did. -/
def modelEpochsSpec : ChangeSpec := { name := "modelEpochs", fn := fun _ => fun
  | [d1, d2, d3] => { results := [.lit (.bool true)], args := [d1, d2, d3] }
  | _ => none }
def modelEpochsRow : OpenClaim := { program := "ytbianedgogdeeaa", sum := "c128f4fe4dceb27afe03dfbfc4190fb1f593c32b077a14cb298fd1ecd4a10817", func := "millrace/millracelaw12.ModelEpochs", spec := "modelEpochs", unfollowed := true, recurses := true, apart := false }
def ModelEpochsSaid : Prop := modelEpochsRow.holds Try.pinned (OpenSpec.ofChange modelEpochsSpec)

/-- ITS FALSE NEIGHBOUR: 'it returns false'. Refute it at one input. -/
def modelEpochsWrong : ChangeSpec := { name := "modelEpochs", fn := fun _ => fun
  | [d1, d2, d3] => { results := [.lit (.bool false)], args := [d1, d2, d3] }
  | _ => none }
def ModelEpochsWrongFalsely : Prop := modelEpochsRow.holds Try.pinned (OpenSpec.ofChange modelEpochsWrong)

/-- 'millracelaw12.ModelKeeps': WHATEVER THE INPUT: true; the input reads as it did. -/
def modelKeepsSpec : ChangeSpec := { name := "modelKeeps", fn := fun _ => fun
  | [d1, d2, d3] => { results := [.lit (.bool true)], args := [d1, d2, d3] }
  | _ => none }
def modelKeepsRow : OpenClaim := { program := "ytbianedgogdeeaa", sum := "c128f4fe4dceb27afe03dfbfc4190fb1f593c32b077a14cb298fd1ecd4a10817", func := "millrace/millracelaw12.ModelKeeps", spec := "modelKeeps", unfollowed := true, recurses := true, apart := false }
def ModelKeepsSaid : Prop := modelKeepsRow.holds Try.pinned (OpenSpec.ofChange modelKeepsSpec)

/-- ITS FALSE NEIGHBOUR: 'it returns false'. Refute it at one input. -/
def modelKeepsWrong : ChangeSpec := { name := "modelKeeps", fn := fun _ => fun
  | [d1, d2, d3] => { results := [.lit (.bool false)], args := [d1, d2, d3] }
  | _ => none }
def ModelKeepsWrongFalsely : Prop := modelKeepsRow.holds Try.pinned (OpenSpec.ofChange modelKeepsWrong)

/-- 'millracelaw12.ModelSums': WHATEVER THE INPUT: true; the input reads as it did. -/
def modelSumsSpec : ChangeSpec := { name := "modelSums", fn := fun _ => fun
  | [d] => { results := [.lit (.bool true)], args := [d] }
  | _ => none }
def modelSumsRow : OpenClaim := { program := "ytbianedgogdeeaa", sum := "c128f4fe4dceb27afe03dfbfc4190fb1f593c32b077a14cb298fd1ecd4a10817", func := "millrace/millracelaw12.ModelSums", spec := "modelSums", unfollowed := true, recurses := true, apart := false }
def ModelSumsSaid : Prop := modelSumsRow.holds Try.pinned (OpenSpec.ofChange modelSumsSpec)

/-- ITS FALSE NEIGHBOUR: 'it returns false'. Refute it at one input. -/
def modelSumsWrong : ChangeSpec := { name := "modelSums", fn := fun _ => fun
  | [d] => { results := [.lit (.bool false)], args := [d] }
  | _ => none }
def ModelSumsWrongFalsely : Prop := modelSumsRow.holds Try.pinned (OpenSpec.ofChange modelSumsWrong)

/-- 'millracelaw12.ModelAlone': WHATEVER THE INPUT: true; the input reads as it did. -/
def modelAloneSpec : ChangeSpec := { name := "modelAlone", fn := fun _ => fun
  | [d1, d2] => { results := [.lit (.bool true)], args := [d1, d2] }
  | _ => none }
def modelAloneRow : OpenClaim := { program := "ytbianedgogdeeaa", sum := "c128f4fe4dceb27afe03dfbfc4190fb1f593c32b077a14cb298fd1ecd4a10817", func := "millrace/millracelaw12.ModelAlone", spec := "modelAlone", unfollowed := true, recurses := true, apart := false }
def ModelAloneSaid : Prop := modelAloneRow.holds Try.pinned (OpenSpec.ofChange modelAloneSpec)

/-- ITS FALSE NEIGHBOUR: 'it returns false'. Refute it at one input. -/
def modelAloneWrong : ChangeSpec := { name := "modelAlone", fn := fun _ => fun
  | [d1, d2] => { results := [.lit (.bool false)], args := [d1, d2] }
  | _ => none }
def ModelAloneWrongFalsely : Prop := modelAloneRow.holds Try.pinned (OpenSpec.ofChange modelAloneWrong)

/- THE SECOND FORM. 'bulk': how many values and letters a reading holds, each counted each time it is reached (what is shared counts as often as it is met; a slice's spare places count too). A statement '..UptoSaid' is the law's where the arguments, and the package variables that the reading takes, are together of bulk at most 1048576: NARROWER than '..Said'. Prove '..Said' where nothing that the law and all that it calls make is longer than what came in: it says more and counts as full. Else prove '..UptoSaid'. A law counts once. -/
mutual
def uptoBulk {H : Type} : DataW H → Nat
  | .lit (.string bytes) => bytes.length + 1
  | .lit _ => 1
  | .nil => 1
  | .ptr d => uptoBulk d + 1
  | .slice elems spare => uptoBulkAll elems + uptoBulkAll spare + 1
  | .agg parts => uptoBulkAll parts + 1
  | .iface _ d => uptoBulk d + 1
  | .map entries => uptoBulkEntries entries + 1
  | .held _ => 1
def uptoBulkAll {H : Type} : List (DataW H) → Nat
  | [] => 0
  | d :: r => uptoBulk d + uptoBulkAll r
def uptoBulkEntries {H : Type} : List (Lit × DataW H) → Nat
  | [] => 0
  | x :: r => uptoBulkEntry x + uptoBulkEntries r
def uptoBulkEntry {H : Type} : Lit × DataW H → Nat
  | (.string bytes, d) => bytes.length + uptoBulk d + 1
  | (_, d) => uptoBulk d + 1
 end
def uptoSmall : (H : Type) → List (DataW H) → Bool := fun _ ds => decide (uptoBulkAll ds ≤ 1048576)
def OpenSpec.upto (s : _root_.Go.ChangeSpec) : _root_.Go.OpenSpec := { _root_.Go.OpenSpec.ofChange s with cond := some uptoSmall }

/-- 'millracelaw12.ModelRuns', WHERE WHAT IT READS IS OF BULK AT MOST 1048576: true; the input reads as it did. -/
def modelRunsUptoRow : OpenClaim := { program := "ytbianedgogdeeaa", sum := "c128f4fe4dceb27afe03dfbfc4190fb1f593c32b077a14cb298fd1ecd4a10817", func := "millrace/millracelaw12.ModelRuns", spec := "modelRuns", unfollowed := true, recurses := true, apart := false, narrowed := true }
def ModelRunsUptoSaid : Prop := modelRunsUptoRow.holds Try.pinned (OpenSpec.upto modelRunsSpec)

/-- 'millracelaw12.ModelForms', WHERE WHAT IT READS IS OF BULK AT MOST 1048576: true; the input reads as it did. -/
def modelFormsUptoRow : OpenClaim := { program := "ytbianedgogdeeaa", sum := "c128f4fe4dceb27afe03dfbfc4190fb1f593c32b077a14cb298fd1ecd4a10817", func := "millrace/millracelaw12.ModelForms", spec := "modelForms", unfollowed := true, recurses := true, apart := false, narrowed := true }
def ModelFormsUptoSaid : Prop := modelFormsUptoRow.holds Try.pinned (OpenSpec.upto modelFormsSpec)

/-- 'millracelaw12.ModelOrders', WHERE WHAT IT READS IS OF BULK AT MOST 1048576: true; the input reads as it did. -/
def modelOrdersUptoRow : OpenClaim := { program := "ytbianedgogdeeaa", sum := "c128f4fe4dceb27afe03dfbfc4190fb1f593c32b077a14cb298fd1ecd4a10817", func := "millrace/millracelaw12.ModelOrders", spec := "modelOrders", unfollowed := true, recurses := true, apart := false, narrowed := true }
def ModelOrdersUptoSaid : Prop := modelOrdersUptoRow.holds Try.pinned (OpenSpec.upto modelOrdersSpec)

/-- 'millracelaw12.ModelEpochs', WHERE WHAT IT READS IS OF BULK AT MOST 1048576: true; the input reads as it did. -/
def modelEpochsUptoRow : OpenClaim := { program := "ytbianedgogdeeaa", sum := "c128f4fe4dceb27afe03dfbfc4190fb1f593c32b077a14cb298fd1ecd4a10817", func := "millrace/millracelaw12.ModelEpochs", spec := "modelEpochs", unfollowed := true, recurses := true, apart := false, narrowed := true }
def ModelEpochsUptoSaid : Prop := modelEpochsUptoRow.holds Try.pinned (OpenSpec.upto modelEpochsSpec)

/-- 'millracelaw12.ModelKeeps', WHERE WHAT IT READS IS OF BULK AT MOST 1048576: true; the input reads as it did. -/
def modelKeepsUptoRow : OpenClaim := { program := "ytbianedgogdeeaa", sum := "c128f4fe4dceb27afe03dfbfc4190fb1f593c32b077a14cb298fd1ecd4a10817", func := "millrace/millracelaw12.ModelKeeps", spec := "modelKeeps", unfollowed := true, recurses := true, apart := false, narrowed := true }
def ModelKeepsUptoSaid : Prop := modelKeepsUptoRow.holds Try.pinned (OpenSpec.upto modelKeepsSpec)

/-- 'millracelaw12.ModelSums', WHERE WHAT IT READS IS OF BULK AT MOST 1048576: true; the input reads as it did. -/
def modelSumsUptoRow : OpenClaim := { program := "ytbianedgogdeeaa", sum := "c128f4fe4dceb27afe03dfbfc4190fb1f593c32b077a14cb298fd1ecd4a10817", func := "millrace/millracelaw12.ModelSums", spec := "modelSums", unfollowed := true, recurses := true, apart := false, narrowed := true }
def ModelSumsUptoSaid : Prop := modelSumsUptoRow.holds Try.pinned (OpenSpec.upto modelSumsSpec)

/-- 'millracelaw12.ModelAlone', WHERE WHAT IT READS IS OF BULK AT MOST 1048576: true; the input reads as it did. -/
def modelAloneUptoRow : OpenClaim := { program := "ytbianedgogdeeaa", sum := "c128f4fe4dceb27afe03dfbfc4190fb1f593c32b077a14cb298fd1ecd4a10817", func := "millrace/millracelaw12.ModelAlone", spec := "modelAlone", unfollowed := true, recurses := true, apart := false, narrowed := true }
def ModelAloneUptoSaid : Prop := modelAloneUptoRow.holds Try.pinned (OpenSpec.upto modelAloneSpec)

end Rows
end Go.Proofs.Ytbianedgogdeeaa
