/-
  No cell of these rows narrows 'for every input' (looked for: loops, veiled, ifaces, maps, wideKeys, modest, calm, conditions, laid).
  DERIVED. THE GIVEN ROWS OF THIS SEAT. 5 by the template 'for every input the law returns true; each argument reads behind the call as it read before'; 0 by the template 'total and deterministic' (their statements: YtcigbobihkkdiaaTotals.lean).
  GIVEN WITH THE SEED: the statements are not yours to turn. If you find one false, say at which input.
  Laid BY PROGRAM, IN A SANDBOX (cutbox-rows.mjs): the forced cells as the released guide's own fill.sh prints them over the translation 69bd348814717424… (all of the seat's roots in one cut). By AI agents, Wed Nov 11 2026. No macro, syntax, notation, axiom, sorry.
-/
import Derived.Test.YtcigbobihkkdiaaChecked
import GoSem.Claim
import GoSem.ClaimJoined
import GoSem.ClaimMapViews
import Derived.JoinedTies
import Derived.KernelRfl
namespace Go.Proofs.Ytcigbobihkkdiaa
/- THE CELL 'sum', in the pinned program and in every row, IS THE sha256 OF THE DUMP (.gsa) THAT YtcigbobihkkdiaaProg.lean LOADS. Nothing in Lean hashes anything: it is a label: what it is worth is what the hold of that sum in a sandbox is worth. -/
noncomputable def Try.pinned : Pinned := { name := "ytcigbobihkkdiaa", sum := "69bd3488147174245adeefc00687dda83e8127b7d26fa577eb5bf9255cf6f9dc", checked := Try.checked }
namespace Rows
def none {H : Type} : Left H := { results := [], args := [] }

/-- 'millracelaw09.EntryEncodes': WHATEVER THE INPUT: true; the input reads as it did. -/
def entryEncodesSpec : ChangeSpec := { name := "entryEncodes", fn := fun _ => fun
  | [d] => { results := [.lit (.bool true)], args := [d] }
  | _ => none }
def entryEncodesRow : OpenClaim := { program := "ytcigbobihkkdiaa", sum := "69bd3488147174245adeefc00687dda83e8127b7d26fa577eb5bf9255cf6f9dc", func := "millrace/millracelaw09.EntryEncodes", spec := "entryEncodes", unfollowed := true, recurses := true, apart := false }
def EntryEncodesSaid : Prop := entryEncodesRow.holds Try.pinned (OpenSpec.ofChange entryEncodesSpec)

/-- ITS FALSE NEIGHBOUR: 'it returns false'. Refute it at one input. -/
def entryEncodesWrong : ChangeSpec := { name := "entryEncodes", fn := fun _ => fun
  | [d] => { results := [.lit (.bool false)], args := [d] }
  | _ => none }
def EntryEncodesWrongFalsely : Prop := entryEncodesRow.holds Try.pinned (OpenSpec.ofChange entryEncodesWrong)

/-- 'millracelaw09.EntryDecodes': WHATEVER THE INPUT: true; the input reads as it did. -/
def entryDecodesSpec : ChangeSpec := { name := "entryDecodes", fn := fun _ => fun
  | [d] => { results := [.lit (.bool true)], args := [d] }
  | _ => none }
def entryDecodesRow : OpenClaim := { program := "ytcigbobihkkdiaa", sum := "69bd3488147174245adeefc00687dda83e8127b7d26fa577eb5bf9255cf6f9dc", func := "millrace/millracelaw09.EntryDecodes", spec := "entryDecodes", unfollowed := true, recurses := true, apart := false }
def EntryDecodesSaid : Prop := entryDecodesRow.holds Try.pinned (OpenSpec.ofChange entryDecodesSpec)

/-- ITS FALSE NEIGHBOUR: 'it returns false'. Refute it at one input. -/
def entryDecodesWrong : ChangeSpec := { name := "entryDecodes", fn := fun _ => fun
  | [d] => { results := [.lit (.bool false)], args := [d] }
  | _ => none }
def EntryDecodesWrongFalsely : Prop := entryDecodesRow.holds Try.pinned (OpenSpec.ofChange entryDecodesWrong)

/-- 'millracelaw09.EntryBack': WHATEVER THE INPUT: true; the input reads as it did. -/
def entryBackSpec : ChangeSpec := { name := "entryBack", fn := fun _ => fun
  | [d1, d2] => { results := [.lit (.bool true)], args := [d1, d2] }
  | _ => none }
def entryBackRow : OpenClaim := { program := "ytcigbobihkkdiaa", sum := "69bd3488147174245adeefc00687dda83e8127b7d26fa577eb5bf9255cf6f9dc", func := "millrace/millracelaw09.EntryBack", spec := "entryBack", unfollowed := true, recurses := true, apart := false }
def EntryBackSaid : Prop := entryBackRow.holds Try.pinned (OpenSpec.ofChange entryBackSpec)

/-- ITS FALSE NEIGHBOUR: 'it returns false'. Refute it at one input. -/
def entryBackWrong : ChangeSpec := { name := "entryBack", fn := fun _ => fun
  | [d1, d2] => { results := [.lit (.bool false)], args := [d1, d2] }
  | _ => none }
def EntryBackWrongFalsely : Prop := entryBackRow.holds Try.pinned (OpenSpec.ofChange entryBackWrong)

/-- 'millracelaw09.EntryKeeps': WHATEVER THE INPUT: true; the input reads as it did. -/
def entryKeepsSpec : ChangeSpec := { name := "entryKeeps", fn := fun _ => fun
  | [d] => { results := [.lit (.bool true)], args := [d] }
  | _ => none }
def entryKeepsRow : OpenClaim := { program := "ytcigbobihkkdiaa", sum := "69bd3488147174245adeefc00687dda83e8127b7d26fa577eb5bf9255cf6f9dc", func := "millrace/millracelaw09.EntryKeeps", spec := "entryKeeps", unfollowed := true, recurses := true, apart := false }
def EntryKeepsSaid : Prop := entryKeepsRow.holds Try.pinned (OpenSpec.ofChange entryKeepsSpec)

/-- ITS FALSE NEIGHBOUR: 'it returns false'. Refute it at one input. -/
def entryKeepsWrong : ChangeSpec := { name := "entryKeeps", fn := fun _ => fun
  | [d] => { results := [.lit (.bool false)], args := [d] }
  | _ => none }
def EntryKeepsWrongFalsely : Prop := entryKeepsRow.holds Try.pinned (OpenSpec.ofChange entryKeepsWrong)

/-- 'millracelaw09.EntryApart': WHATEVER THE INPUT: true; the input reads as it did. -/
def entryApartSpec : ChangeSpec := { name := "entryApart", fn := fun _ => fun
  | [d1, d2] => { results := [.lit (.bool true)], args := [d1, d2] }
  | _ => none }
def entryApartRow : OpenClaim := { program := "ytcigbobihkkdiaa", sum := "69bd3488147174245adeefc00687dda83e8127b7d26fa577eb5bf9255cf6f9dc", func := "millrace/millracelaw09.EntryApart", spec := "entryApart", unfollowed := true, recurses := true, apart := false }
def EntryApartSaid : Prop := entryApartRow.holds Try.pinned (OpenSpec.ofChange entryApartSpec)

/-- ITS FALSE NEIGHBOUR: 'it returns false'. Refute it at one input. -/
def entryApartWrong : ChangeSpec := { name := "entryApart", fn := fun _ => fun
  | [d1, d2] => { results := [.lit (.bool false)], args := [d1, d2] }
  | _ => none }
def EntryApartWrongFalsely : Prop := entryApartRow.holds Try.pinned (OpenSpec.ofChange entryApartWrong)

/- THE SECOND FORM. 'bulk': how many values and letters a reading holds, each counted each time it is reached (what is shared counts as often as it is met; a slice's spare places count too). A statement '..UptoSaid' is the law's where the arguments, and the package variables that the reading takes, are together of bulk at most 1048576: NARROWER than '..Said'. Prove '..Said' where nothing that the law and all that it calls make is longer than what came in: it says more and counts as full. Else prove '..UptoSaid'. A law counts once. -/
mutual
def uptoBulk {H : Type} : DataW H → Nat
  | .lit (.string bytes) => bytes.length + 1
  | .lit _ => 1
  | .nil => 1
  | .ptr d => uptoBulk d + 1
  | .slice elems spare => uptoBulkAll elems + uptoBulkAll spare + 1
  | .agg parts => uptoBulkAll parts + 1
  | .iface _ d => uptoBulk d + 1
  | .map entries => uptoBulkEntries entries + 1
  | .held _ => 1
def uptoBulkAll {H : Type} : List (DataW H) → Nat
  | [] => 0
  | d :: r => uptoBulk d + uptoBulkAll r
def uptoBulkEntries {H : Type} : List (Lit × DataW H) → Nat
  | [] => 0
  | x :: r => uptoBulkEntry x + uptoBulkEntries r
def uptoBulkEntry {H : Type} : Lit × DataW H → Nat
  | (.string bytes, d) => bytes.length + uptoBulk d + 1
  | (_, d) => uptoBulk d + 1
 end
def uptoSmall : (H : Type) → List (DataW H) → Bool := fun _ ds => decide (uptoBulkAll ds ≤ 1048576)
def OpenSpec.upto (s : _root_.Go.ChangeSpec) : _root_.Go.OpenSpec := { _root_.Go.OpenSpec.ofChange s with cond := some uptoSmall }

/-- 'millracelaw09.EntryEncodes', WHERE WHAT IT READS IS OF BULK AT MOST 1048576: true; the input reads as it did. -/
def entryEncodesUptoRow : OpenClaim := { program := "ytcigbobihkkdiaa", sum := "69bd3488147174245adeefc00687dda83e8127b7d26fa577eb5bf9255cf6f9dc", func := "millrace/millracelaw09.EntryEncodes", spec := "entryEncodes", unfollowed := true, recurses := true, apart := false, narrowed := true }
def EntryEncodesUptoSaid : Prop := entryEncodesUptoRow.holds Try.pinned (OpenSpec.upto entryEncodesSpec)

/-- 'millracelaw09.EntryDecodes', WHERE WHAT IT READS IS OF BULK AT MOST 1048576: true; the input reads as it did. -/
def entryDecodesUptoRow : OpenClaim := { program := "ytcigbobihkkdiaa", sum := "69bd3488147174245adeefc00687dda83e8127b7d26fa577eb5bf9255cf6f9dc", func := "millrace/millracelaw09.EntryDecodes", spec := "entryDecodes", unfollowed := true, recurses := true, apart := false, narrowed := true }
def EntryDecodesUptoSaid : Prop := entryDecodesUptoRow.holds Try.pinned (OpenSpec.upto entryDecodesSpec)

/-- 'millracelaw09.EntryBack', WHERE WHAT IT READS IS OF BULK AT MOST 1048576: true; the input reads as it did. -/
def entryBackUptoRow : OpenClaim := { program := "ytcigbobihkkdiaa", sum := "69bd3488147174245adeefc00687dda83e8127b7d26fa577eb5bf9255cf6f9dc", func := "millrace/millracelaw09.EntryBack", spec := "entryBack", unfollowed := true, recurses := true, apart := false, narrowed := true }
def EntryBackUptoSaid : Prop := entryBackUptoRow.holds Try.pinned (OpenSpec.upto entryBackSpec)

/-- 'millracelaw09.EntryKeeps', WHERE WHAT IT READS IS OF BULK AT MOST 1048576: true; the input reads as it did. -/
def entryKeepsUptoRow : OpenClaim := { program := "ytcigbobihkkdiaa", sum := "69bd3488147174245adeefc00687dda83e8127b7d26fa577eb5bf9255cf6f9dc", func := "millrace/millracelaw09.EntryKeeps", spec := "entryKeeps", unfollowed := true, recurses := true, apart := false, narrowed := true }
def EntryKeepsUptoSaid : Prop := entryKeepsUptoRow.holds Try.pinned (OpenSpec.upto entryKeepsSpec)

/-- 'millracelaw09.EntryApart', WHERE WHAT IT READS IS OF BULK AT MOST 1048576: true; the input reads as it did. -/
def entryApartUptoRow : OpenClaim := { program := "ytcigbobihkkdiaa", sum := "69bd3488147174245adeefc00687dda83e8127b7d26fa577eb5bf9255cf6f9dc", func := "millrace/millracelaw09.EntryApart", spec := "entryApart", unfollowed := true, recurses := true, apart := false, narrowed := true }
def EntryApartUptoSaid : Prop := entryApartUptoRow.holds Try.pinned (OpenSpec.upto entryApartSpec)

end Rows
end Go.Proofs.Ytcigbobihkkdiaa
