/-
  No cell of these rows narrows 'for every input' (looked for: loops, veiled, ifaces, maps, wideKeys, modest, calm, conditions, laid).
  DERIVED. THE GIVEN ROWS OF THIS SEAT. 3 by the template 'for every input the law returns true; each argument reads behind the call as it read before'; 0 by the template 'total and deterministic' (their statements: YtjgiphoolfhlmaaTotals.lean).
  GIVEN WITH THE SEED: the statements are not yours to turn. If you find one false, say at which input.
  Laid BY PROGRAM, IN A SANDBOX (cutbox-rows.mjs): the forced cells as the released guide's own fill.sh prints them over the translation c82dc4682b58b19b… (all of the seat's roots in one cut). By AI agents, Wed Nov 11 2026. No macro, syntax, notation, axiom, sorry.
-/
import Derived.Test.YtjgiphoolfhlmaaChecked
import GoSem.Claim
import GoSem.ClaimJoined
import GoSem.ClaimMapViews
import Derived.JoinedTies
import Derived.KernelRfl
namespace Go.Proofs.Ytjgiphoolfhlmaa
/- THE CELL 'sum', in the pinned program and in every row, IS THE sha256 OF THE DUMP (.gsa) THAT YtjgiphoolfhlmaaProg.lean LOADS. Nothing in Lean hashes anything: it is a label: what it is worth is what the hold of that sum in a sandbox is worth. -/
noncomputable def Try.pinned : Pinned := { name := "ytjgiphoolfhlmaa", sum := "c82dc4682b58b19ba738817e7f6a153adf908fdcdc1dd94275c6ca79114227a9", checked := Try.checked }
namespace Rows
def none {H : Type} : Left H := { results := [], args := [] }

/-- 'millracelaw07.SlotNames': WHATEVER THE INPUT: true; the input reads as it did. -/
def slotNamesSpec : ChangeSpec := { name := "slotNames", fn := fun _ => fun
  | [d] => { results := [.lit (.bool true)], args := [d] }
  | _ => none }
def slotNamesRow : OpenClaim := { program := "ytjgiphoolfhlmaa", sum := "c82dc4682b58b19ba738817e7f6a153adf908fdcdc1dd94275c6ca79114227a9", func := "millrace/millracelaw07.SlotNames", spec := "slotNames", unfollowed := true, recurses := true, apart := false }
def SlotNamesSaid : Prop := slotNamesRow.holds Try.pinned (OpenSpec.ofChange slotNamesSpec)

/-- ITS FALSE NEIGHBOUR: 'it returns false'. Refute it at one input. -/
def slotNamesWrong : ChangeSpec := { name := "slotNames", fn := fun _ => fun
  | [d] => { results := [.lit (.bool false)], args := [d] }
  | _ => none }
def SlotNamesWrongFalsely : Prop := slotNamesRow.holds Try.pinned (OpenSpec.ofChange slotNamesWrong)

/-- 'millracelaw07.SlotLast': WHATEVER THE INPUT: true; the input reads as it did. -/
def slotLastSpec : ChangeSpec := { name := "slotLast", fn := fun _ => fun
  | [d1, d2] => { results := [.lit (.bool true)], args := [d1, d2] }
  | _ => none }
def slotLastRow : OpenClaim := { program := "ytjgiphoolfhlmaa", sum := "c82dc4682b58b19ba738817e7f6a153adf908fdcdc1dd94275c6ca79114227a9", func := "millrace/millracelaw07.SlotLast", spec := "slotLast", inPlace := ["maps.clone"], unfollowed := true, recurses := true, apart := false }
def SlotLastSaid : Prop := slotLastRow.holds Try.pinned (OpenSpec.ofChange slotLastSpec)

/-- ITS FALSE NEIGHBOUR: 'it returns false'. Refute it at one input. -/
def slotLastWrong : ChangeSpec := { name := "slotLast", fn := fun _ => fun
  | [d1, d2] => { results := [.lit (.bool false)], args := [d1, d2] }
  | _ => none }
def SlotLastWrongFalsely : Prop := slotLastRow.holds Try.pinned (OpenSpec.ofChange slotLastWrong)

/-- 'millracelaw07.SlotScripts': WHATEVER THE INPUT: true; the input reads as it did. -/
def slotScriptsSpec : ChangeSpec := { name := "slotScripts", fn := fun _ => fun
  | [d] => { results := [.lit (.bool true)], args := [d] }
  | _ => none }
def slotScriptsRow : OpenClaim := { program := "ytjgiphoolfhlmaa", sum := "c82dc4682b58b19ba738817e7f6a153adf908fdcdc1dd94275c6ca79114227a9", func := "millrace/millracelaw07.SlotScripts", spec := "slotScripts", inPlace := ["maps.clone"], unfollowed := true, recurses := true, apart := false }
def SlotScriptsSaid : Prop := slotScriptsRow.holds Try.pinned (OpenSpec.ofChange slotScriptsSpec)

/-- ITS FALSE NEIGHBOUR: 'it returns false'. Refute it at one input. -/
def slotScriptsWrong : ChangeSpec := { name := "slotScripts", fn := fun _ => fun
  | [d] => { results := [.lit (.bool false)], args := [d] }
  | _ => none }
def SlotScriptsWrongFalsely : Prop := slotScriptsRow.holds Try.pinned (OpenSpec.ofChange slotScriptsWrong)

/- THE SECOND FORM. 'bulk': how many values and letters a reading holds, each counted each time it is reached (what is shared counts as often as it is met; a slice's spare places count too). A statement '..UptoSaid' is the law's where the arguments, and the package variables that the reading takes, are together of bulk at most 1048576: NARROWER than '..Said'. Prove '..Said' where nothing that the law and all that it calls make is longer than what came in: it says more and counts as full. Else prove '..UptoSaid'. A law counts once. -/
mutual
def uptoBulk {H : Type} : DataW H → Nat
  | .lit (.string bytes) => bytes.length + 1
  | .lit _ => 1
  | .nil => 1
  | .ptr d => uptoBulk d + 1
  | .slice elems spare => uptoBulkAll elems + uptoBulkAll spare + 1
  | .agg parts => uptoBulkAll parts + 1
  | .iface _ d => uptoBulk d + 1
  | .map entries => uptoBulkEntries entries + 1
  | .held _ => 1
def uptoBulkAll {H : Type} : List (DataW H) → Nat
  | [] => 0
  | d :: r => uptoBulk d + uptoBulkAll r
def uptoBulkEntries {H : Type} : List (Lit × DataW H) → Nat
  | [] => 0
  | x :: r => uptoBulkEntry x + uptoBulkEntries r
def uptoBulkEntry {H : Type} : Lit × DataW H → Nat
  | (.string bytes, d) => bytes.length + uptoBulk d + 1
  | (_, d) => uptoBulk d + 1
 end
def uptoSmall : (H : Type) → List (DataW H) → Bool := fun _ ds => decide (uptoBulkAll ds ≤ 1048576)
def OpenSpec.upto (s : _root_.Go.ChangeSpec) : _root_.Go.OpenSpec := { _root_.Go.OpenSpec.ofChange s with cond := some uptoSmall }

/-- 'millracelaw07.SlotNames', WHERE WHAT IT READS IS OF BULK AT MOST 1048576: true; the input reads as it did. -/
def slotNamesUptoRow : OpenClaim := { program := "ytjgiphoolfhlmaa", sum := "c82dc4682b58b19ba738817e7f6a153adf908fdcdc1dd94275c6ca79114227a9", func := "millrace/millracelaw07.SlotNames", spec := "slotNames", unfollowed := true, recurses := true, apart := false, narrowed := true }
def SlotNamesUptoSaid : Prop := slotNamesUptoRow.holds Try.pinned (OpenSpec.upto slotNamesSpec)

/-- 'millracelaw07.SlotLast', WHERE WHAT IT READS IS OF BULK AT MOST 1048576: true; the input reads as it did. -/
def slotLastUptoRow : OpenClaim := { program := "ytjgiphoolfhlmaa", sum := "c82dc4682b58b19ba738817e7f6a153adf908fdcdc1dd94275c6ca79114227a9", func := "millrace/millracelaw07.SlotLast", spec := "slotLast", inPlace := ["maps.clone"], unfollowed := true, recurses := true, apart := false, narrowed := true }
def SlotLastUptoSaid : Prop := slotLastUptoRow.holds Try.pinned (OpenSpec.upto slotLastSpec)

/-- 'millracelaw07.SlotScripts', WHERE WHAT IT READS IS OF BULK AT MOST 1048576: true; the input reads as it did. -/
def slotScriptsUptoRow : OpenClaim := { program := "ytjgiphoolfhlmaa", sum := "c82dc4682b58b19ba738817e7f6a153adf908fdcdc1dd94275c6ca79114227a9", func := "millrace/millracelaw07.SlotScripts", spec := "slotScripts", inPlace := ["maps.clone"], unfollowed := true, recurses := true, apart := false, narrowed := true }
def SlotScriptsUptoSaid : Prop := slotScriptsUptoRow.holds Try.pinned (OpenSpec.upto slotScriptsSpec)

end Rows
end Go.Proofs.Ytjgiphoolfhlmaa
