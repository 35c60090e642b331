/-
  No cell of these rows narrows 'for every input' (looked for: loops, veiled, ifaces, maps, wideKeys, modest, calm, conditions, laid).
  DERIVED. THE GIVEN ROWS OF THIS SEAT. 5 by the template 'for every input the law returns true; each argument reads behind the call as it read before'; 0 by the template 'total and deterministic' (their statements: YtbiakolkcikeiaaTotals.lean).
  GIVEN WITH THE SEED: the statements are not yours to turn. If you find one false, say at which input.
  Laid BY PROGRAM, IN A SANDBOX (cutbox-rows.mjs): the forced cells as the released guide's own fill.sh prints them over the translation 80a336065ab52460… (all of the seat's roots in one cut). By AI agents, Wed Nov 11 2026. No macro, syntax, notation, axiom, sorry.
-/
import Derived.Test.YtbiakolkcikeiaaChecked
import GoSem.Claim
import GoSem.ClaimJoined
import GoSem.ClaimMapViews
import Derived.JoinedTies
import Derived.KernelRfl
namespace Go.Proofs.Ytbiakolkcikeiaa
/- THE CELL 'sum', in the pinned program and in every row, IS THE sha256 OF THE DUMP (.gsa) THAT YtbiakolkcikeiaaProg.lean LOADS. Nothing in Lean hashes anything: it is a label: what it is worth is what the hold of that sum in a sandbox is worth. -/
noncomputable def Try.pinned : Pinned := { name := "ytbiakolkcikeiaa", sum := "80a336065ab52460ba0cf9d4b5ac48a09d4727e60a6634f7b0cef11f92203cac", checked := Try.checked }
namespace Rows
def none {H : Type} : Left H := { results := [], args := [] }

/-- 'millracelaw17.ReachCoulds': WHATEVER THE INPUT: true; the input reads as it did. -/
def reachCouldsSpec : ChangeSpec := { name := "reachCoulds", fn := fun _ => fun
  | [d1, d2, d3] => { results := [.lit (.bool true)], args := [d1, d2, d3] }
  | _ => none }
def reachCouldsRow : OpenClaim := { program := "ytbiakolkcikeiaa", sum := "80a336065ab52460ba0cf9d4b5ac48a09d4727e60a6634f7b0cef11f92203cac", func := "millrace/millracelaw17.ReachCoulds", spec := "reachCoulds", unfollowed := true, recurses := true, apart := false }
def ReachCouldsSaid : Prop := reachCouldsRow.holds Try.pinned (OpenSpec.ofChange reachCouldsSpec)

/-- ITS FALSE NEIGHBOUR: 'it returns false'. Refute it at one input. -/
def reachCouldsWrong : ChangeSpec := { name := "reachCoulds", fn := fun _ => fun
  | [d1, d2, d3] => { results := [.lit (.bool false)], args := [d1, d2, d3] }
  | _ => none }
def ReachCouldsWrongFalsely : Prop := reachCouldsRow.holds Try.pinned (OpenSpec.ofChange reachCouldsWrong)

/-- 'millracelaw17.ReachGoes': WHATEVER THE INPUT: true; the input reads as it did. -/
def reachGoesSpec : ChangeSpec := { name := "reachGoes", fn := fun _ => fun
  | [d1, d2] => { results := [.lit (.bool true)], args := [d1, d2] }
  | _ => none }
def reachGoesRow : OpenClaim := { program := "ytbiakolkcikeiaa", sum := "80a336065ab52460ba0cf9d4b5ac48a09d4727e60a6634f7b0cef11f92203cac", func := "millrace/millracelaw17.ReachGoes", spec := "reachGoes", unfollowed := true, recurses := true, apart := false }
def ReachGoesSaid : Prop := reachGoesRow.holds Try.pinned (OpenSpec.ofChange reachGoesSpec)

/-- ITS FALSE NEIGHBOUR: 'it returns false'. Refute it at one input. -/
def reachGoesWrong : ChangeSpec := { name := "reachGoes", fn := fun _ => fun
  | [d1, d2] => { results := [.lit (.bool false)], args := [d1, d2] }
  | _ => none }
def ReachGoesWrongFalsely : Prop := reachGoesRow.holds Try.pinned (OpenSpec.ofChange reachGoesWrong)

/-- 'millracelaw17.ReachKeeps': WHATEVER THE INPUT: true; the input reads as it did. -/
def reachKeepsSpec : ChangeSpec := { name := "reachKeeps", fn := fun _ => fun
  | [d1, d2, d3] => { results := [.lit (.bool true)], args := [d1, d2, d3] }
  | _ => none }
def reachKeepsRow : OpenClaim := { program := "ytbiakolkcikeiaa", sum := "80a336065ab52460ba0cf9d4b5ac48a09d4727e60a6634f7b0cef11f92203cac", func := "millrace/millracelaw17.ReachKeeps", spec := "reachKeeps", unfollowed := true, recurses := true, apart := false }
def ReachKeepsSaid : Prop := reachKeepsRow.holds Try.pinned (OpenSpec.ofChange reachKeepsSpec)

/-- ITS FALSE NEIGHBOUR: 'it returns false'. Refute it at one input. -/
def reachKeepsWrong : ChangeSpec := { name := "reachKeeps", fn := fun _ => fun
  | [d1, d2, d3] => { results := [.lit (.bool false)], args := [d1, d2, d3] }
  | _ => none }
def ReachKeepsWrongFalsely : Prop := reachKeepsRow.holds Try.pinned (OpenSpec.ofChange reachKeepsWrong)

/-- 'millracelaw17.ReachMore': WHATEVER THE INPUT: true; the input reads as it did. -/
def reachMoreSpec : ChangeSpec := { name := "reachMore", fn := fun _ => fun
  | [d1, d2, d3] => { results := [.lit (.bool true)], args := [d1, d2, d3] }
  | _ => none }
def reachMoreRow : OpenClaim := { program := "ytbiakolkcikeiaa", sum := "80a336065ab52460ba0cf9d4b5ac48a09d4727e60a6634f7b0cef11f92203cac", func := "millrace/millracelaw17.ReachMore", spec := "reachMore", unfollowed := true, recurses := true, apart := false }
def ReachMoreSaid : Prop := reachMoreRow.holds Try.pinned (OpenSpec.ofChange reachMoreSpec)

/-- ITS FALSE NEIGHBOUR: 'it returns false'. Refute it at one input. -/
def reachMoreWrong : ChangeSpec := { name := "reachMore", fn := fun _ => fun
  | [d1, d2, d3] => { results := [.lit (.bool false)], args := [d1, d2, d3] }
  | _ => none }
def ReachMoreWrongFalsely : Prop := reachMoreRow.holds Try.pinned (OpenSpec.ofChange reachMoreWrong)

/-- 'millracelaw17.ReachFronts': WHATEVER THE INPUT: true; the input reads as it did. -/
def reachFrontsSpec : ChangeSpec := { name := "reachFronts", fn := fun _ => fun
  | [d1, d2, d3] => { results := [.lit (.bool true)], args := [d1, d2, d3] }
  | _ => none }
def reachFrontsRow : OpenClaim := { program := "ytbiakolkcikeiaa", sum := "80a336065ab52460ba0cf9d4b5ac48a09d4727e60a6634f7b0cef11f92203cac", func := "millrace/millracelaw17.ReachFronts", spec := "reachFronts", unfollowed := true, recurses := true, apart := false }
def ReachFrontsSaid : Prop := reachFrontsRow.holds Try.pinned (OpenSpec.ofChange reachFrontsSpec)

/-- ITS FALSE NEIGHBOUR: 'it returns false'. Refute it at one input. -/
def reachFrontsWrong : ChangeSpec := { name := "reachFronts", fn := fun _ => fun
  | [d1, d2, d3] => { results := [.lit (.bool false)], args := [d1, d2, d3] }
  | _ => none }
def ReachFrontsWrongFalsely : Prop := reachFrontsRow.holds Try.pinned (OpenSpec.ofChange reachFrontsWrong)

/- THE SECOND FORM. 'bulk': how many values and letters a reading holds, each counted each time it is reached (what is shared counts as often as it is met; a slice's spare places count too). A statement '..UptoSaid' is the law's where the arguments, and the package variables that the reading takes, are together of bulk at most 1048576: NARROWER than '..Said'. Prove '..Said' where nothing that the law and all that it calls make is longer than what came in: it says more and counts as full. Else prove '..UptoSaid'. A law counts once. -/
mutual
def uptoBulk {H : Type} : DataW H → Nat
  | .lit (.string bytes) => bytes.length + 1
  | .lit _ => 1
  | .nil => 1
  | .ptr d => uptoBulk d + 1
  | .slice elems spare => uptoBulkAll elems + uptoBulkAll spare + 1
  | .agg parts => uptoBulkAll parts + 1
  | .iface _ d => uptoBulk d + 1
  | .map entries => uptoBulkEntries entries + 1
  | .held _ => 1
def uptoBulkAll {H : Type} : List (DataW H) → Nat
  | [] => 0
  | d :: r => uptoBulk d + uptoBulkAll r
def uptoBulkEntries {H : Type} : List (Lit × DataW H) → Nat
  | [] => 0
  | x :: r => uptoBulkEntry x + uptoBulkEntries r
def uptoBulkEntry {H : Type} : Lit × DataW H → Nat
  | (.string bytes, d) => bytes.length + uptoBulk d + 1
  | (_, d) => uptoBulk d + 1
 end
def uptoSmall : (H : Type) → List (DataW H) → Bool := fun _ ds => decide (uptoBulkAll ds ≤ 1048576)
def OpenSpec.upto (s : _root_.Go.ChangeSpec) : _root_.Go.OpenSpec := { _root_.Go.OpenSpec.ofChange s with cond := some uptoSmall }

/-- 'millracelaw17.ReachCoulds', WHERE WHAT IT READS IS OF BULK AT MOST 1048576: true; the input reads as it did. -/
def reachCouldsUptoRow : OpenClaim := { program := "ytbiakolkcikeiaa", sum := "80a336065ab52460ba0cf9d4b5ac48a09d4727e60a6634f7b0cef11f92203cac", func := "millrace/millracelaw17.ReachCoulds", spec := "reachCoulds", unfollowed := true, recurses := true, apart := false, narrowed := true }
def ReachCouldsUptoSaid : Prop := reachCouldsUptoRow.holds Try.pinned (OpenSpec.upto reachCouldsSpec)

/-- 'millracelaw17.ReachGoes', WHERE WHAT IT READS IS OF BULK AT MOST 1048576: true; the input reads as it did. -/
def reachGoesUptoRow : OpenClaim := { program := "ytbiakolkcikeiaa", sum := "80a336065ab52460ba0cf9d4b5ac48a09d4727e60a6634f7b0cef11f92203cac", func := "millrace/millracelaw17.ReachGoes", spec := "reachGoes", unfollowed := true, recurses := true, apart := false, narrowed := true }
def ReachGoesUptoSaid : Prop := reachGoesUptoRow.holds Try.pinned (OpenSpec.upto reachGoesSpec)

/-- 'millracelaw17.ReachKeeps', WHERE WHAT IT READS IS OF BULK AT MOST 1048576: true; the input reads as it did. -/
def reachKeepsUptoRow : OpenClaim := { program := "ytbiakolkcikeiaa", sum := "80a336065ab52460ba0cf9d4b5ac48a09d4727e60a6634f7b0cef11f92203cac", func := "millrace/millracelaw17.ReachKeeps", spec := "reachKeeps", unfollowed := true, recurses := true, apart := false, narrowed := true }
def ReachKeepsUptoSaid : Prop := reachKeepsUptoRow.holds Try.pinned (OpenSpec.upto reachKeepsSpec)

/-- 'millracelaw17.ReachMore', WHERE WHAT IT READS IS OF BULK AT MOST 1048576: true; the input reads as it did. -/
def reachMoreUptoRow : OpenClaim := { program := "ytbiakolkcikeiaa", sum := "80a336065ab52460ba0cf9d4b5ac48a09d4727e60a6634f7b0cef11f92203cac", func := "millrace/millracelaw17.ReachMore", spec := "reachMore", unfollowed := true, recurses := true, apart := false, narrowed := true }
def ReachMoreUptoSaid : Prop := reachMoreUptoRow.holds Try.pinned (OpenSpec.upto reachMoreSpec)

/-- 'millracelaw17.ReachFronts', WHERE WHAT IT READS IS OF BULK AT MOST 1048576: true; the input reads as it did. -/
def reachFrontsUptoRow : OpenClaim := { program := "ytbiakolkcikeiaa", sum := "80a336065ab52460ba0cf9d4b5ac48a09d4727e60a6634f7b0cef11f92203cac", func := "millrace/millracelaw17.ReachFronts", spec := "reachFronts", unfollowed := true, recurses := true, apart := false, narrowed := true }
def ReachFrontsUptoSaid : Prop := reachFrontsUptoRow.holds Try.pinned (OpenSpec.upto reachFrontsSpec)

end Rows
end Go.Proofs.Ytbiakolkcikeiaa
