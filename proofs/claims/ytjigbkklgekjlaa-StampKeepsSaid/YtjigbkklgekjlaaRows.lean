/-
  No cell of these rows narrows 'for every input' (looked for: loops, veiled, ifaces, maps, wideKeys, modest, calm, conditions, laid).
  DERIVED. THE GIVEN ROWS OF THIS SEAT. 5 by the template 'for every input the law returns true; each argument reads behind the call as it read before'; 0 by the template 'total and deterministic' (their statements: YtjigbkklgekjlaaTotals.lean).
  GIVEN WITH THE SEED: the statements are not yours to turn. If you find one false, say at which input.
  Laid BY PROGRAM, IN A SANDBOX (cutbox-rows.mjs): the forced cells as the released guide's own fill.sh prints them over the translation e6c6aae78144eba5… (all of the seat's roots in one cut). By AI agents, Wed Nov 11 2026. No macro, syntax, notation, axiom, sorry.
-/
import Derived.Test.YtjigbkklgekjlaaChecked
import GoSem.Claim
import GoSem.ClaimJoined
import GoSem.ClaimMapViews
import Derived.JoinedTies
import Derived.KernelRfl
namespace Go.Proofs.Ytjigbkklgekjlaa
/- THE CELL 'sum', in the pinned program and in every row, IS THE sha256 OF THE DUMP (.gsa) THAT YtjigbkklgekjlaaProg.lean LOADS. Nothing in Lean hashes anything: it is a label: what it is worth is what the hold of that sum in a sandbox is worth. -/
noncomputable def Try.pinned : Pinned := { name := "ytjigbkklgekjlaa", sum := "e6c6aae78144eba5510583a69dfd4f4c7b23fcdb13b40c4584f14dc5ff1b6c8b", checked := Try.checked }
namespace Rows
def none {H : Type} : Left H := { results := [], args := [] }

/-- 'millracelaw16.StampKeeps': WHATEVER THE INPUT: true; the input reads as it did. -/
def stampKeepsSpec : ChangeSpec := { name := "stampKeeps", fn := fun _ => fun
  | [d] => { results := [.lit (.bool true)], args := [d] }
  | _ => none }
def stampKeepsRow : OpenClaim := { program := "ytjigbkklgekjlaa", sum := "e6c6aae78144eba5510583a69dfd4f4c7b23fcdb13b40c4584f14dc5ff1b6c8b", func := "millrace/millracelaw16.StampKeeps", spec := "stampKeeps", unfollowed := true, recurses := true, apart := false }
def StampKeepsSaid : Prop := stampKeepsRow.holds Try.pinned (OpenSpec.ofChange stampKeepsSpec)

/-- ITS FALSE NEIGHBOUR: 'it returns false'. Refute it at one input. -/
def stampKeepsWrong : ChangeSpec := { name := "stampKeeps", fn := fun _ => fun
  | [d] => { results := [.lit (.bool false)], args := [d] }
  | _ => none }
def StampKeepsWrongFalsely : Prop := stampKeepsRow.holds Try.pinned (OpenSpec.ofChange stampKeepsWrong)

/-- 'millracelaw16.StampJoins': WHATEVER THE INPUT: true; the input reads as it did. -/
def stampJoinsSpec : ChangeSpec := { name := "stampJoins", fn := fun _ => fun
  | [d1, d2, d3] => { results := [.lit (.bool true)], args := [d1, d2, d3] }
  | _ => none }
def stampJoinsRow : OpenClaim := { program := "ytjigbkklgekjlaa", sum := "e6c6aae78144eba5510583a69dfd4f4c7b23fcdb13b40c4584f14dc5ff1b6c8b", func := "millrace/millracelaw16.StampJoins", spec := "stampJoins", unfollowed := true, recurses := true, apart := false }
def StampJoinsSaid : Prop := stampJoinsRow.holds Try.pinned (OpenSpec.ofChange stampJoinsSpec)

/-- ITS FALSE NEIGHBOUR: 'it returns false'. Refute it at one input. -/
def stampJoinsWrong : ChangeSpec := { name := "stampJoins", fn := fun _ => fun
  | [d1, d2, d3] => { results := [.lit (.bool false)], args := [d1, d2, d3] }
  | _ => none }
def StampJoinsWrongFalsely : Prop := stampJoinsRow.holds Try.pinned (OpenSpec.ofChange stampJoinsWrong)

/-- 'millracelaw16.StampFronts': WHATEVER THE INPUT: true; the input reads as it did. -/
def stampFrontsSpec : ChangeSpec := { name := "stampFronts", fn := fun _ => fun
  | [d1, d2] => { results := [.lit (.bool true)], args := [d1, d2] }
  | _ => none }
def stampFrontsRow : OpenClaim := { program := "ytjigbkklgekjlaa", sum := "e6c6aae78144eba5510583a69dfd4f4c7b23fcdb13b40c4584f14dc5ff1b6c8b", func := "millrace/millracelaw16.StampFronts", spec := "stampFronts", unfollowed := true, recurses := true, apart := false }
def StampFrontsSaid : Prop := stampFrontsRow.holds Try.pinned (OpenSpec.ofChange stampFrontsSpec)

/-- ITS FALSE NEIGHBOUR: 'it returns false'. Refute it at one input. -/
def stampFrontsWrong : ChangeSpec := { name := "stampFronts", fn := fun _ => fun
  | [d1, d2] => { results := [.lit (.bool false)], args := [d1, d2] }
  | _ => none }
def StampFrontsWrongFalsely : Prop := stampFrontsRow.holds Try.pinned (OpenSpec.ofChange stampFrontsWrong)

/-- 'millracelaw16.StampLeast': WHATEVER THE INPUT: true; the input reads as it did. -/
def stampLeastSpec : ChangeSpec := { name := "stampLeast", fn := fun _ => fun
  | [d1, d2] => { results := [.lit (.bool true)], args := [d1, d2] }
  | _ => none }
def stampLeastRow : OpenClaim := { program := "ytjigbkklgekjlaa", sum := "e6c6aae78144eba5510583a69dfd4f4c7b23fcdb13b40c4584f14dc5ff1b6c8b", func := "millrace/millracelaw16.StampLeast", spec := "stampLeast", unfollowed := true, recurses := true, apart := false }
def StampLeastSaid : Prop := stampLeastRow.holds Try.pinned (OpenSpec.ofChange stampLeastSpec)

/-- ITS FALSE NEIGHBOUR: 'it returns false'. Refute it at one input. -/
def stampLeastWrong : ChangeSpec := { name := "stampLeast", fn := fun _ => fun
  | [d1, d2] => { results := [.lit (.bool false)], args := [d1, d2] }
  | _ => none }
def StampLeastWrongFalsely : Prop := stampLeastRow.holds Try.pinned (OpenSpec.ofChange stampLeastWrong)

/-- 'millracelaw16.StampOrders': WHATEVER THE INPUT: true; the input reads as it did. -/
def stampOrdersSpec : ChangeSpec := { name := "stampOrders", fn := fun _ => fun
  | [d1, d2, d3] => { results := [.lit (.bool true)], args := [d1, d2, d3] }
  | _ => none }
def stampOrdersRow : OpenClaim := { program := "ytjigbkklgekjlaa", sum := "e6c6aae78144eba5510583a69dfd4f4c7b23fcdb13b40c4584f14dc5ff1b6c8b", func := "millrace/millracelaw16.StampOrders", spec := "stampOrders", unfollowed := true, recurses := true, apart := false }
def StampOrdersSaid : Prop := stampOrdersRow.holds Try.pinned (OpenSpec.ofChange stampOrdersSpec)

/-- ITS FALSE NEIGHBOUR: 'it returns false'. Refute it at one input. -/
def stampOrdersWrong : ChangeSpec := { name := "stampOrders", fn := fun _ => fun
  | [d1, d2, d3] => { results := [.lit (.bool false)], args := [d1, d2, d3] }
  | _ => none }
def StampOrdersWrongFalsely : Prop := stampOrdersRow.holds Try.pinned (OpenSpec.ofChange stampOrdersWrong)

/- THE SECOND FORM. 'bulk': how many values and letters a reading holds, each counted each time it is reached (what is shared counts as often as it is met; a slice's spare places count too). A statement '..UptoSaid' is the law's where the arguments, and the package variables that the reading takes, are together of bulk at most 1048576: NARROWER than '..Said'. Prove '..Said' where nothing that the law and all that it calls make is longer than what came in: it says more and counts as full. Else prove '..UptoSaid'. A law counts once. -/
mutual
def uptoBulk {H : Type} : DataW H → Nat
  | .lit (.string bytes) => bytes.length + 1
  | .lit _ => 1
  | .nil => 1
  | .ptr d => uptoBulk d + 1
  | .slice elems spare => uptoBulkAll elems + uptoBulkAll spare + 1
  | .agg parts => uptoBulkAll parts + 1
  | .iface _ d => uptoBulk d + 1
  | .map entries => uptoBulkEntries entries + 1
  | .held _ => 1
def uptoBulkAll {H : Type} : List (DataW H) → Nat
  | [] => 0
  | d :: r => uptoBulk d + uptoBulkAll r
def uptoBulkEntries {H : Type} : List (Lit × DataW H) → Nat
  | [] => 0
  | x :: r => uptoBulkEntry x + uptoBulkEntries r
def uptoBulkEntry {H : Type} : Lit × DataW H → Nat
  | (.string bytes, d) => bytes.length + uptoBulk d + 1
  | (_, d) => uptoBulk d + 1
 end
def uptoSmall : (H : Type) → List (DataW H) → Bool := fun _ ds => decide (uptoBulkAll ds ≤ 1048576)
def OpenSpec.upto (s : _root_.Go.ChangeSpec) : _root_.Go.OpenSpec := { _root_.Go.OpenSpec.ofChange s with cond := some uptoSmall }

/-- 'millracelaw16.StampKeeps', WHERE WHAT IT READS IS OF BULK AT MOST 1048576: true; the input reads as it did. -/
def stampKeepsUptoRow : OpenClaim := { program := "ytjigbkklgekjlaa", sum := "e6c6aae78144eba5510583a69dfd4f4c7b23fcdb13b40c4584f14dc5ff1b6c8b", func := "millrace/millracelaw16.StampKeeps", spec := "stampKeeps", unfollowed := true, recurses := true, apart := false, narrowed := true }
def StampKeepsUptoSaid : Prop := stampKeepsUptoRow.holds Try.pinned (OpenSpec.upto stampKeepsSpec)

/-- 'millracelaw16.StampJoins', WHERE WHAT IT READS IS OF BULK AT MOST 1048576: true; the input reads as it did. -/
def stampJoinsUptoRow : OpenClaim := { program := "ytjigbkklgekjlaa", sum := "e6c6aae78144eba5510583a69dfd4f4c7b23fcdb13b40c4584f14dc5ff1b6c8b", func := "millrace/millracelaw16.StampJoins", spec := "stampJoins", unfollowed := true, recurses := true, apart := false, narrowed := true }
def StampJoinsUptoSaid : Prop := stampJoinsUptoRow.holds Try.pinned (OpenSpec.upto stampJoinsSpec)

/-- 'millracelaw16.StampFronts', WHERE WHAT IT READS IS OF BULK AT MOST 1048576: true; the input reads as it did. -/
def stampFrontsUptoRow : OpenClaim := { program := "ytjigbkklgekjlaa", sum := "e6c6aae78144eba5510583a69dfd4f4c7b23fcdb13b40c4584f14dc5ff1b6c8b", func := "millrace/millracelaw16.StampFronts", spec := "stampFronts", unfollowed := true, recurses := true, apart := false, narrowed := true }
def StampFrontsUptoSaid : Prop := stampFrontsUptoRow.holds Try.pinned (OpenSpec.upto stampFrontsSpec)

/-- 'millracelaw16.StampLeast', WHERE WHAT IT READS IS OF BULK AT MOST 1048576: true; the input reads as it did. -/
def stampLeastUptoRow : OpenClaim := { program := "ytjigbkklgekjlaa", sum := "e6c6aae78144eba5510583a69dfd4f4c7b23fcdb13b40c4584f14dc5ff1b6c8b", func := "millrace/millracelaw16.StampLeast", spec := "stampLeast", unfollowed := true, recurses := true, apart := false, narrowed := true }
def StampLeastUptoSaid : Prop := stampLeastUptoRow.holds Try.pinned (OpenSpec.upto stampLeastSpec)

/-- 'millracelaw16.StampOrders', WHERE WHAT IT READS IS OF BULK AT MOST 1048576: true; the input reads as it did. -/
def stampOrdersUptoRow : OpenClaim := { program := "ytjigbkklgekjlaa", sum := "e6c6aae78144eba5510583a69dfd4f4c7b23fcdb13b40c4584f14dc5ff1b6c8b", func := "millrace/millracelaw16.StampOrders", spec := "stampOrders", unfollowed := true, recurses := true, apart := false, narrowed := true }
def StampOrdersUptoSaid : Prop := stampOrdersUptoRow.holds Try.pinned (OpenSpec.upto stampOrdersSpec)

end Rows
end Go.Proofs.Ytjigbkklgekjlaa
