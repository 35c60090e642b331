/-
  No cell of these rows narrows 'for every input' (looked for: loops, veiled, ifaces, maps, wideKeys, modest, calm, conditions, laid).
  DERIVED. THE GIVEN ROWS OF THIS SEAT. 3 by the template 'for every input the law returns true; each argument reads behind the call as it read before'; 0 by the template 'total and deterministic' (their statements: YtoiaijfmppbodaaTotals.lean).
  GIVEN WITH THE SEED: the statements are not yours to turn. If you find one false, say at which input.
  Laid BY PROGRAM, IN A SANDBOX (cutbox-rows.mjs): the forced cells as the released guide's own fill.sh prints them over the translation cc0be8a57bfc51f2… (all of the seat's roots in one cut). By AI agents, Wed Nov 11 2026. No macro, syntax, notation, axiom, sorry.
-/
import Derived.Test.YtoiaijfmppbodaaChecked
import GoSem.Claim
import GoSem.ClaimJoined
import GoSem.ClaimMapViews
import Derived.JoinedTies
import Derived.KernelRfl
namespace Go.Proofs.Ytoiaijfmppbodaa
/- THE CELL 'sum', in the pinned program and in every row, IS THE sha256 OF THE DUMP (.gsa) THAT YtoiaijfmppbodaaProg.lean LOADS. Nothing in Lean hashes anything: it is a label: what it is worth is what the hold of that sum in a sandbox is worth. -/
noncomputable def Try.pinned : Pinned := { name := "ytoiaijfmppbodaa", sum := "cc0be8a57bfc51f2e013e069826478865bb6ee53b10eb11ede5f6ffe199ab671", checked := Try.checked }
namespace Rows
def none {H : Type} : Left H := { results := [], args := [] }

/-- 'millracelaw20.QueueFull': WHATEVER THE INPUT: true; the input reads as it did. -/
def queueFullSpec : ChangeSpec := { name := "queueFull", fn := fun _ => fun
  | [d1, d2] => { results := [.lit (.bool true)], args := [d1, d2] }
  | _ => none }
def queueFullRow : OpenClaim := { program := "ytoiaijfmppbodaa", sum := "cc0be8a57bfc51f2e013e069826478865bb6ee53b10eb11ede5f6ffe199ab671", func := "millrace/millracelaw20.QueueFull", spec := "queueFull", apart := false }
def QueueFullSaid : Prop := queueFullRow.holds Try.pinned (OpenSpec.ofChange queueFullSpec)

/-- ITS FALSE NEIGHBOUR: 'it returns false'. Refute it at one input. -/
def queueFullWrong : ChangeSpec := { name := "queueFull", fn := fun _ => fun
  | [d1, d2] => { results := [.lit (.bool false)], args := [d1, d2] }
  | _ => none }
def QueueFullWrongFalsely : Prop := queueFullRow.holds Try.pinned (OpenSpec.ofChange queueFullWrong)

/-- 'millracelaw20.QueueRuns': WHATEVER THE INPUT: true; the input reads as it did. -/
def queueRunsSpec : ChangeSpec := { name := "queueRuns", fn := fun _ => fun
  | [d1, d2] => { results := [.lit (.bool true)], args := [d1, d2] }
  | _ => none }
def queueRunsRow : OpenClaim := { program := "ytoiaijfmppbodaa", sum := "cc0be8a57bfc51f2e013e069826478865bb6ee53b10eb11ede5f6ffe199ab671", func := "millrace/millracelaw20.QueueRuns", spec := "queueRuns", unfollowed := true, recurses := true, apart := false }
def QueueRunsSaid : Prop := queueRunsRow.holds Try.pinned (OpenSpec.ofChange queueRunsSpec)

/-- ITS FALSE NEIGHBOUR: 'it returns false'. Refute it at one input. -/
def queueRunsWrong : ChangeSpec := { name := "queueRuns", fn := fun _ => fun
  | [d1, d2] => { results := [.lit (.bool false)], args := [d1, d2] }
  | _ => none }
def QueueRunsWrongFalsely : Prop := queueRunsRow.holds Try.pinned (OpenSpec.ofChange queueRunsWrong)

/-- 'millracelaw20.QueueOrders': WHATEVER THE INPUT: true; the input reads as it did. -/
def queueOrdersSpec : ChangeSpec := { name := "queueOrders", fn := fun _ => fun
  | [d1, d2] => { results := [.lit (.bool true)], args := [d1, d2] }
  | _ => none }
def queueOrdersRow : OpenClaim := { program := "ytoiaijfmppbodaa", sum := "cc0be8a57bfc51f2e013e069826478865bb6ee53b10eb11ede5f6ffe199ab671", func := "millrace/millracelaw20.QueueOrders", spec := "queueOrders", unfollowed := true, recurses := true, apart := false }
def QueueOrdersSaid : Prop := queueOrdersRow.holds Try.pinned (OpenSpec.ofChange queueOrdersSpec)

/-- ITS FALSE NEIGHBOUR: 'it returns false'. Refute it at one input. -/
def queueOrdersWrong : ChangeSpec := { name := "queueOrders", fn := fun _ => fun
  | [d1, d2] => { results := [.lit (.bool false)], args := [d1, d2] }
  | _ => none }
def QueueOrdersWrongFalsely : Prop := queueOrdersRow.holds Try.pinned (OpenSpec.ofChange queueOrdersWrong)

/- THE SECOND FORM. 'bulk': how many values and letters a reading holds, each counted each time it is reached (what is shared counts as often as it is met; a slice's spare places count too). A statement '..UptoSaid' is the law's where the arguments, and the package variables that the reading takes, are together of bulk at most 1048576: NARROWER than '..Said'. Prove '..Said' where nothing that the law and all that it calls make is longer than what came in: it says more and counts as full. Else prove '..UptoSaid'. A law counts once. -/
mutual
def uptoBulk {H : Type} : DataW H → Nat
  | .lit (.string bytes) => bytes.length + 1
  | .lit _ => 1
  | .nil => 1
  | .ptr d => uptoBulk d + 1
  | .slice elems spare => uptoBulkAll elems + uptoBulkAll spare + 1
  | .agg parts => uptoBulkAll parts + 1
  | .iface _ d => uptoBulk d + 1
  | .map entries => uptoBulkEntries entries + 1
  | .held _ => 1
def uptoBulkAll {H : Type} : List (DataW H) → Nat
  | [] => 0
  | d :: r => uptoBulk d + uptoBulkAll r
def uptoBulkEntries {H : Type} : List (Lit × DataW H) → Nat
  | [] => 0
  | x :: r => uptoBulkEntry x + uptoBulkEntries r
def uptoBulkEntry {H : Type} : Lit × DataW H → Nat
  | (.string bytes, d) => bytes.length + uptoBulk d + 1
  | (_, d) => uptoBulk d + 1
 end
def uptoSmall : (H : Type) → List (DataW H) → Bool := fun _ ds => decide (uptoBulkAll ds ≤ 1048576)
def OpenSpec.upto (s : _root_.Go.ChangeSpec) : _root_.Go.OpenSpec := { _root_.Go.OpenSpec.ofChange s with cond := some uptoSmall }

/-- 'millracelaw20.QueueFull', WHERE WHAT IT READS IS OF BULK AT MOST 1048576: true; the input reads as it did. -/
def queueFullUptoRow : OpenClaim := { program := "ytoiaijfmppbodaa", sum := "cc0be8a57bfc51f2e013e069826478865bb6ee53b10eb11ede5f6ffe199ab671", func := "millrace/millracelaw20.QueueFull", spec := "queueFull", apart := false, narrowed := true }
def QueueFullUptoSaid : Prop := queueFullUptoRow.holds Try.pinned (OpenSpec.upto queueFullSpec)

/-- 'millracelaw20.QueueRuns', WHERE WHAT IT READS IS OF BULK AT MOST 1048576: true; the input reads as it did. -/
def queueRunsUptoRow : OpenClaim := { program := "ytoiaijfmppbodaa", sum := "cc0be8a57bfc51f2e013e069826478865bb6ee53b10eb11ede5f6ffe199ab671", func := "millrace/millracelaw20.QueueRuns", spec := "queueRuns", unfollowed := true, recurses := true, apart := false, narrowed := true }
def QueueRunsUptoSaid : Prop := queueRunsUptoRow.holds Try.pinned (OpenSpec.upto queueRunsSpec)

/-- 'millracelaw20.QueueOrders', WHERE WHAT IT READS IS OF BULK AT MOST 1048576: true; the input reads as it did. -/
def queueOrdersUptoRow : OpenClaim := { program := "ytoiaijfmppbodaa", sum := "cc0be8a57bfc51f2e013e069826478865bb6ee53b10eb11ede5f6ffe199ab671", func := "millrace/millracelaw20.QueueOrders", spec := "queueOrders", unfollowed := true, recurses := true, apart := false, narrowed := true }
def QueueOrdersUptoSaid : Prop := queueOrdersUptoRow.holds Try.pinned (OpenSpec.upto queueOrdersSpec)

end Rows
end Go.Proofs.Ytoiaijfmppbodaa
