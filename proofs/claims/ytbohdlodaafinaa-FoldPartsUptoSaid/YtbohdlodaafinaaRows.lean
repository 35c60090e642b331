/-
  No cell of these rows narrows 'for every input' (looked for: loops, veiled, ifaces, maps, wideKeys, modest, calm, conditions, laid).
  DERIVED. THE GIVEN ROWS OF THIS SEAT. 4 by the template 'for every input the law returns true; each argument reads behind the call as it read before'; 0 by the template 'total and deterministic' (their statements: YtbohdlodaafinaaTotals.lean).
  GIVEN WITH THE SEED: the statements are not yours to turn. If you find one false, say at which input.
  Laid BY PROGRAM, IN A SANDBOX (cutbox-rows.mjs): the forced cells as the released guide's own fill.sh prints them over the translation 82517cb5364acdfe… (all of the seat's roots in one cut). By AI agents, Wed Nov 11 2026. No macro, syntax, notation, axiom, sorry.
-/
import Derived.Test.YtbohdlodaafinaaChecked
import GoSem.Claim
import GoSem.ClaimJoined
import GoSem.ClaimMapViews
import Derived.JoinedTies
import Derived.KernelRfl
namespace Go.Proofs.Ytbohdlodaafinaa
/- THE CELL 'sum', in the pinned program and in every row, IS THE sha256 OF THE DUMP (.gsa) THAT YtbohdlodaafinaaProg.lean LOADS. Nothing in Lean hashes anything: it is a label: what it is worth is what the hold of that sum in a sandbox is worth. -/
noncomputable def Try.pinned : Pinned := { name := "ytbohdlodaafinaa", sum := "82517cb5364acdfe9e547bc25402743216621039e2c489f263b2495caf5df5ca", checked := Try.checked }
namespace Rows
def none {H : Type} : Left H := { results := [], args := [] }

/-- 'millracelaw10.FoldTables': WHATEVER THE INPUT: true; the input reads as it did. -/
def foldTablesSpec : ChangeSpec := { name := "foldTables", fn := fun _ => fun
  | [d1, d2] => { results := [.lit (.bool true)], args := [d1, d2] }
  | _ => none }
def foldTablesRow : OpenClaim := { program := "ytbohdlodaafinaa", sum := "82517cb5364acdfe9e547bc25402743216621039e2c489f263b2495caf5df5ca", func := "millrace/millracelaw10.FoldTables", spec := "foldTables", apart := false }
def FoldTablesSaid : Prop := foldTablesRow.holds Try.pinned (OpenSpec.ofChange foldTablesSpec)

/-- ITS FALSE NEIGHBOUR: 'it returns false'. Refute it at one input. -/
def foldTablesWrong : ChangeSpec := { name := "foldTables", fn := fun _ => fun
  | [d1, d2] => { results := [.lit (.bool false)], args := [d1, d2] }
  | _ => none }
def FoldTablesWrongFalsely : Prop := foldTablesRow.holds Try.pinned (OpenSpec.ofChange foldTablesWrong)

/-- 'millracelaw10.FoldAlls': WHATEVER THE INPUT: true; the input reads as it did. -/
def foldAllsSpec : ChangeSpec := { name := "foldAlls", fn := fun _ => fun
  | [d1, d2] => { results := [.lit (.bool true)], args := [d1, d2] }
  | _ => none }
def foldAllsRow : OpenClaim := { program := "ytbohdlodaafinaa", sum := "82517cb5364acdfe9e547bc25402743216621039e2c489f263b2495caf5df5ca", func := "millrace/millracelaw10.FoldAlls", spec := "foldAlls", apart := false }
def FoldAllsSaid : Prop := foldAllsRow.holds Try.pinned (OpenSpec.ofChange foldAllsSpec)

/-- ITS FALSE NEIGHBOUR: 'it returns false'. Refute it at one input. -/
def foldAllsWrong : ChangeSpec := { name := "foldAlls", fn := fun _ => fun
  | [d1, d2] => { results := [.lit (.bool false)], args := [d1, d2] }
  | _ => none }
def FoldAllsWrongFalsely : Prop := foldAllsRow.holds Try.pinned (OpenSpec.ofChange foldAllsWrong)

/-- 'millracelaw10.FoldOrders': WHATEVER THE INPUT: true; the input reads as it did. -/
def foldOrdersSpec : ChangeSpec := { name := "foldOrders", fn := fun _ => fun
  | [d1, d2, d3] => { results := [.lit (.bool true)], args := [d1, d2, d3] }
  | _ => none }
def foldOrdersRow : OpenClaim := { program := "ytbohdlodaafinaa", sum := "82517cb5364acdfe9e547bc25402743216621039e2c489f263b2495caf5df5ca", func := "millrace/millracelaw10.FoldOrders", spec := "foldOrders", apart := false }
def FoldOrdersSaid : Prop := foldOrdersRow.holds Try.pinned (OpenSpec.ofChange foldOrdersSpec)

/-- ITS FALSE NEIGHBOUR: 'it returns false'. Refute it at one input. -/
def foldOrdersWrong : ChangeSpec := { name := "foldOrders", fn := fun _ => fun
  | [d1, d2, d3] => { results := [.lit (.bool false)], args := [d1, d2, d3] }
  | _ => none }
def FoldOrdersWrongFalsely : Prop := foldOrdersRow.holds Try.pinned (OpenSpec.ofChange foldOrdersWrong)

/-- 'millracelaw10.FoldParts': WHATEVER THE INPUT: true; the input reads as it did. -/
def foldPartsSpec : ChangeSpec := { name := "foldParts", fn := fun _ => fun
  | [d1, d2, d3] => { results := [.lit (.bool true)], args := [d1, d2, d3] }
  | _ => none }
def foldPartsRow : OpenClaim := { program := "ytbohdlodaafinaa", sum := "82517cb5364acdfe9e547bc25402743216621039e2c489f263b2495caf5df5ca", func := "millrace/millracelaw10.FoldParts", spec := "foldParts", apart := false }
def FoldPartsSaid : Prop := foldPartsRow.holds Try.pinned (OpenSpec.ofChange foldPartsSpec)

/-- ITS FALSE NEIGHBOUR: 'it returns false'. Refute it at one input. -/
def foldPartsWrong : ChangeSpec := { name := "foldParts", fn := fun _ => fun
  | [d1, d2, d3] => { results := [.lit (.bool false)], args := [d1, d2, d3] }
  | _ => none }
def FoldPartsWrongFalsely : Prop := foldPartsRow.holds Try.pinned (OpenSpec.ofChange foldPartsWrong)

/- THE SECOND FORM. 'bulk': how many values and letters a reading holds, each counted each time it is reached (what is shared counts as often as it is met; a slice's spare places count too). A statement '..UptoSaid' is the law's where the arguments, and the package variables that the reading takes, are together of bulk at most 1048576: NARROWER than '..Said'. Prove '..Said' where nothing that the law and all that it calls make is longer than what came in: it says more and counts as full. Else prove '..UptoSaid'. A law counts once. -/
mutual
def uptoBulk {H : Type} : DataW H → Nat
  | .lit (.string bytes) => bytes.length + 1
  | .lit _ => 1
  | .nil => 1
  | .ptr d => uptoBulk d + 1
  | .slice elems spare => uptoBulkAll elems + uptoBulkAll spare + 1
  | .agg parts => uptoBulkAll parts + 1
  | .iface _ d => uptoBulk d + 1
  | .map entries => uptoBulkEntries entries + 1
  | .held _ => 1
def uptoBulkAll {H : Type} : List (DataW H) → Nat
  | [] => 0
  | d :: r => uptoBulk d + uptoBulkAll r
def uptoBulkEntries {H : Type} : List (Lit × DataW H) → Nat
  | [] => 0
  | x :: r => uptoBulkEntry x + uptoBulkEntries r
def uptoBulkEntry {H : Type} : Lit × DataW H → Nat
  | (.string bytes, d) => bytes.length + uptoBulk d + 1
  | (_, d) => uptoBulk d + 1
 end
def uptoSmall : (H : Type) → List (DataW H) → Bool := fun _ ds => decide (uptoBulkAll ds ≤ 1048576)
def OpenSpec.upto (s : _root_.Go.ChangeSpec) : _root_.Go.OpenSpec := { _root_.Go.OpenSpec.ofChange s with cond := some uptoSmall }

/-- 'millracelaw10.FoldTables', WHERE WHAT IT READS IS OF BULK AT MOST 1048576: true; the input reads as it did. -/
def foldTablesUptoRow : OpenClaim := { program := "ytbohdlodaafinaa", sum := "82517cb5364acdfe9e547bc25402743216621039e2c489f263b2495caf5df5ca", func := "millrace/millracelaw10.FoldTables", spec := "foldTables", apart := false, narrowed := true }
def FoldTablesUptoSaid : Prop := foldTablesUptoRow.holds Try.pinned (OpenSpec.upto foldTablesSpec)

/-- 'millracelaw10.FoldAlls', WHERE WHAT IT READS IS OF BULK AT MOST 1048576: true; the input reads as it did. -/
def foldAllsUptoRow : OpenClaim := { program := "ytbohdlodaafinaa", sum := "82517cb5364acdfe9e547bc25402743216621039e2c489f263b2495caf5df5ca", func := "millrace/millracelaw10.FoldAlls", spec := "foldAlls", apart := false, narrowed := true }
def FoldAllsUptoSaid : Prop := foldAllsUptoRow.holds Try.pinned (OpenSpec.upto foldAllsSpec)

/-- 'millracelaw10.FoldOrders', WHERE WHAT IT READS IS OF BULK AT MOST 1048576: true; the input reads as it did. -/
def foldOrdersUptoRow : OpenClaim := { program := "ytbohdlodaafinaa", sum := "82517cb5364acdfe9e547bc25402743216621039e2c489f263b2495caf5df5ca", func := "millrace/millracelaw10.FoldOrders", spec := "foldOrders", apart := false, narrowed := true }
def FoldOrdersUptoSaid : Prop := foldOrdersUptoRow.holds Try.pinned (OpenSpec.upto foldOrdersSpec)

/-- 'millracelaw10.FoldParts', WHERE WHAT IT READS IS OF BULK AT MOST 1048576: true; the input reads as it did. -/
def foldPartsUptoRow : OpenClaim := { program := "ytbohdlodaafinaa", sum := "82517cb5364acdfe9e547bc25402743216621039e2c489f263b2495caf5df5ca", func := "millrace/millracelaw10.FoldParts", spec := "foldParts", apart := false, narrowed := true }
def FoldPartsUptoSaid : Prop := foldPartsUptoRow.holds Try.pinned (OpenSpec.upto foldPartsSpec)

end Rows
end Go.Proofs.Ytbohdlodaafinaa
