/-
  No cell of these rows narrows 'for every input' (looked for: loops, veiled, ifaces, maps, wideKeys, modest, calm, conditions, laid).
  DERIVED. THE GIVEN ROWS OF THIS SEAT. 5 by the template 'for every input the law returns true; each argument reads behind the call as it read before'; 0 by the template 'total and deterministic' (their statements: YtbholbjegfnpdaaTotals.lean).
  GIVEN WITH THE SEED: the statements are not yours to turn. If you find one false, say at which input.
  Laid BY PROGRAM, IN A SANDBOX (cutbox-rows.mjs): the forced cells as the released guide's own fill.sh prints them over the translation 3cee5a67404649f7… (all of the seat's roots in one cut). By AI agents, Wed Nov 11 2026. No macro, syntax, notation, axiom, sorry.
-/
import Derived.Test.YtbholbjegfnpdaaChecked
import GoSem.Claim
import GoSem.ClaimJoined
import GoSem.ClaimMapViews
import Derived.JoinedTies
import Derived.KernelRfl
namespace Go.Proofs.Ytbholbjegfnpdaa
/- THE CELL 'sum', in the pinned program and in every row, IS THE sha256 OF THE DUMP (.gsa) THAT YtbholbjegfnpdaaProg.lean LOADS. Nothing in Lean hashes anything: it is a label: what it is worth is what the hold of that sum in a sandbox is worth. -/
noncomputable def Try.pinned : Pinned := { name := "ytbholbjegfnpdaa", sum := "3cee5a67404649f7ece10d490de78b385ab92a60dea8a16a65c180038911e0bd", checked := Try.checked }
namespace Rows
def none {H : Type} : Left H := { results := [], args := [] }

/-- 'millracelaw18.ProgressStays': WHATEVER THE INPUT: true; the input reads as it did. -/
def progressStaysSpec : ChangeSpec := { name := "progressStays", fn := fun _ => fun
  | [d1, d2, d3] => { results := [.lit (.bool true)], args := [d1, d2, d3] }
  | _ => none }
def progressStaysRow : OpenClaim := { program := "ytbholbjegfnpdaa", sum := "3cee5a67404649f7ece10d490de78b385ab92a60dea8a16a65c180038911e0bd", func := "millrace/millracelaw18.ProgressStays", spec := "progressStays", unfollowed := true, recurses := true, plainKeys := false, apart := false }
def ProgressStaysSaid : Prop := progressStaysRow.holds Try.pinned (OpenSpec.ofChange progressStaysSpec)

/-- ITS FALSE NEIGHBOUR: 'it returns false'. Refute it at one input. -/
def progressStaysWrong : ChangeSpec := { name := "progressStays", fn := fun _ => fun
  | [d1, d2, d3] => { results := [.lit (.bool false)], args := [d1, d2, d3] }
  | _ => none }
def ProgressStaysWrongFalsely : Prop := progressStaysRow.holds Try.pinned (OpenSpec.ofChange progressStaysWrong)

/-- 'millracelaw18.ProgressBack': WHATEVER THE INPUT: true; the input reads as it did. -/
def progressBackSpec : ChangeSpec := { name := "progressBack", fn := fun _ => fun
  | [d1, d2, d3] => { results := [.lit (.bool true)], args := [d1, d2, d3] }
  | _ => none }
def progressBackRow : OpenClaim := { program := "ytbholbjegfnpdaa", sum := "3cee5a67404649f7ece10d490de78b385ab92a60dea8a16a65c180038911e0bd", func := "millrace/millracelaw18.ProgressBack", spec := "progressBack", unfollowed := true, recurses := true, plainKeys := false, apart := false }
def ProgressBackSaid : Prop := progressBackRow.holds Try.pinned (OpenSpec.ofChange progressBackSpec)

/-- ITS FALSE NEIGHBOUR: 'it returns false'. Refute it at one input. -/
def progressBackWrong : ChangeSpec := { name := "progressBack", fn := fun _ => fun
  | [d1, d2, d3] => { results := [.lit (.bool false)], args := [d1, d2, d3] }
  | _ => none }
def ProgressBackWrongFalsely : Prop := progressBackRow.holds Try.pinned (OpenSpec.ofChange progressBackWrong)

/-- 'millracelaw18.ProgressRuns': WHATEVER THE INPUT: true; the input reads as it did. -/
def progressRunsSpec : ChangeSpec := { name := "progressRuns", fn := fun _ => fun
  | [d1, d2, d3] => { results := [.lit (.bool true)], args := [d1, d2, d3] }
  | _ => none }
def progressRunsRow : OpenClaim := { program := "ytbholbjegfnpdaa", sum := "3cee5a67404649f7ece10d490de78b385ab92a60dea8a16a65c180038911e0bd", func := "millrace/millracelaw18.ProgressRuns", spec := "progressRuns", inPlace := ["maps.clone"], unfollowed := true, recurses := true, plainKeys := false, apart := false }
def ProgressRunsSaid : Prop := progressRunsRow.holds Try.pinned (OpenSpec.ofChange progressRunsSpec)

/-- ITS FALSE NEIGHBOUR: 'it returns false'. Refute it at one input. -/
def progressRunsWrong : ChangeSpec := { name := "progressRuns", fn := fun _ => fun
  | [d1, d2, d3] => { results := [.lit (.bool false)], args := [d1, d2, d3] }
  | _ => none }
def ProgressRunsWrongFalsely : Prop := progressRunsRow.holds Try.pinned (OpenSpec.ofChange progressRunsWrong)

/-- 'millracelaw18.ProgressOrders': WHATEVER THE INPUT: true; the input reads as it did. -/
def progressOrdersSpec : ChangeSpec := { name := "progressOrders", fn := fun _ => fun
  | [d1, d2, d3] => { results := [.lit (.bool true)], args := [d1, d2, d3] }
  | _ => none }
def progressOrdersRow : OpenClaim := { program := "ytbholbjegfnpdaa", sum := "3cee5a67404649f7ece10d490de78b385ab92a60dea8a16a65c180038911e0bd", func := "millrace/millracelaw18.ProgressOrders", spec := "progressOrders", inPlace := ["maps.clone"], unfollowed := true, recurses := true, plainKeys := false, apart := false }
def ProgressOrdersSaid : Prop := progressOrdersRow.holds Try.pinned (OpenSpec.ofChange progressOrdersSpec)

/-- ITS FALSE NEIGHBOUR: 'it returns false'. Refute it at one input. -/
def progressOrdersWrong : ChangeSpec := { name := "progressOrders", fn := fun _ => fun
  | [d1, d2, d3] => { results := [.lit (.bool false)], args := [d1, d2, d3] }
  | _ => none }
def ProgressOrdersWrongFalsely : Prop := progressOrdersRow.holds Try.pinned (OpenSpec.ofChange progressOrdersWrong)

/-- 'millracelaw18.ProgressKeeps': WHATEVER THE INPUT: true; the input reads as it did. -/
def progressKeepsSpec : ChangeSpec := { name := "progressKeeps", fn := fun _ => fun
  | [d1, d2] => { results := [.lit (.bool true)], args := [d1, d2] }
  | _ => none }
def progressKeepsRow : OpenClaim := { program := "ytbholbjegfnpdaa", sum := "3cee5a67404649f7ece10d490de78b385ab92a60dea8a16a65c180038911e0bd", func := "millrace/millracelaw18.ProgressKeeps", spec := "progressKeeps", inPlace := ["maps.clone"], unfollowed := true, recurses := true, plainKeys := false, apart := false }
def ProgressKeepsSaid : Prop := progressKeepsRow.holds Try.pinned (OpenSpec.ofChange progressKeepsSpec)

/-- ITS FALSE NEIGHBOUR: 'it returns false'. Refute it at one input. -/
def progressKeepsWrong : ChangeSpec := { name := "progressKeeps", fn := fun _ => fun
  | [d1, d2] => { results := [.lit (.bool false)], args := [d1, d2] }
  | _ => none }
def ProgressKeepsWrongFalsely : Prop := progressKeepsRow.holds Try.pinned (OpenSpec.ofChange progressKeepsWrong)

/- THE SECOND FORM. 'bulk': how many values and letters a reading holds, each counted each time it is reached (what is shared counts as often as it is met; a slice's spare places count too). A statement '..UptoSaid' is the law's where the arguments, and the package variables that the reading takes, are together of bulk at most 1048576: NARROWER than '..Said'. Prove '..Said' where nothing that the law and all that it calls make is longer than what came in: it says more and counts as full. Else prove '..UptoSaid'. A law counts once. -/
mutual
def uptoBulk {H : Type} : DataW H → Nat
  | .lit (.string bytes) => bytes.length + 1
  | .lit _ => 1
  | .nil => 1
  | .ptr d => uptoBulk d + 1
  | .slice elems spare => uptoBulkAll elems + uptoBulkAll spare + 1
  | .agg parts => uptoBulkAll parts + 1
  | .iface _ d => uptoBulk d + 1
  | .map entries => uptoBulkEntries entries + 1
  | .held _ => 1
def uptoBulkAll {H : Type} : List (DataW H) → Nat
  | [] => 0
  | d :: r => uptoBulk d + uptoBulkAll r
def uptoBulkEntries {H : Type} : List (Lit × DataW H) → Nat
  | [] => 0
  | x :: r => uptoBulkEntry x + uptoBulkEntries r
def uptoBulkEntry {H : Type} : Lit × DataW H → Nat
  | (.string bytes, d) => bytes.length + uptoBulk d + 1
  | (_, d) => uptoBulk d + 1
 end
def uptoSmall : (H : Type) → List (DataW H) → Bool := fun _ ds => decide (uptoBulkAll ds ≤ 1048576)
def OpenSpec.upto (s : _root_.Go.ChangeSpec) : _root_.Go.OpenSpec := { _root_.Go.OpenSpec.ofChange s with cond := some uptoSmall }

/-- 'millracelaw18.ProgressStays', WHERE WHAT IT READS IS OF BULK AT MOST 1048576: true; the input reads as it did. -/
def progressStaysUptoRow : OpenClaim := { program := "ytbholbjegfnpdaa", sum := "3cee5a67404649f7ece10d490de78b385ab92a60dea8a16a65c180038911e0bd", func := "millrace/millracelaw18.ProgressStays", spec := "progressStays", unfollowed := true, recurses := true, plainKeys := false, apart := false, narrowed := true }
def ProgressStaysUptoSaid : Prop := progressStaysUptoRow.holds Try.pinned (OpenSpec.upto progressStaysSpec)

/-- 'millracelaw18.ProgressBack', WHERE WHAT IT READS IS OF BULK AT MOST 1048576: true; the input reads as it did. -/
def progressBackUptoRow : OpenClaim := { program := "ytbholbjegfnpdaa", sum := "3cee5a67404649f7ece10d490de78b385ab92a60dea8a16a65c180038911e0bd", func := "millrace/millracelaw18.ProgressBack", spec := "progressBack", unfollowed := true, recurses := true, plainKeys := false, apart := false, narrowed := true }
def ProgressBackUptoSaid : Prop := progressBackUptoRow.holds Try.pinned (OpenSpec.upto progressBackSpec)

/-- 'millracelaw18.ProgressRuns', WHERE WHAT IT READS IS OF BULK AT MOST 1048576: true; the input reads as it did. -/
def progressRunsUptoRow : OpenClaim := { program := "ytbholbjegfnpdaa", sum := "3cee5a67404649f7ece10d490de78b385ab92a60dea8a16a65c180038911e0bd", func := "millrace/millracelaw18.ProgressRuns", spec := "progressRuns", inPlace := ["maps.clone"], unfollowed := true, recurses := true, plainKeys := false, apart := false, narrowed := true }
def ProgressRunsUptoSaid : Prop := progressRunsUptoRow.holds Try.pinned (OpenSpec.upto progressRunsSpec)

/-- 'millracelaw18.ProgressOrders', WHERE WHAT IT READS IS OF BULK AT MOST 1048576: true; the input reads as it did. -/
def progressOrdersUptoRow : OpenClaim := { program := "ytbholbjegfnpdaa", sum := "3cee5a67404649f7ece10d490de78b385ab92a60dea8a16a65c180038911e0bd", func := "millrace/millracelaw18.ProgressOrders", spec := "progressOrders", inPlace := ["maps.clone"], unfollowed := true, recurses := true, plainKeys := false, apart := false, narrowed := true }
def ProgressOrdersUptoSaid : Prop := progressOrdersUptoRow.holds Try.pinned (OpenSpec.upto progressOrdersSpec)

/-- 'millracelaw18.ProgressKeeps', WHERE WHAT IT READS IS OF BULK AT MOST 1048576: true; the input reads as it did. -/
def progressKeepsUptoRow : OpenClaim := { program := "ytbholbjegfnpdaa", sum := "3cee5a67404649f7ece10d490de78b385ab92a60dea8a16a65c180038911e0bd", func := "millrace/millracelaw18.ProgressKeeps", spec := "progressKeeps", inPlace := ["maps.clone"], unfollowed := true, recurses := true, plainKeys := false, apart := false, narrowed := true }
def ProgressKeepsUptoSaid : Prop := progressKeepsUptoRow.holds Try.pinned (OpenSpec.upto progressKeepsSpec)

end Rows
end Go.Proofs.Ytbholbjegfnpdaa
