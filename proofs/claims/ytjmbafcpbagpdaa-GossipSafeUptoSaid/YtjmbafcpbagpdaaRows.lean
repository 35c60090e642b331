/-
  No cell of these rows narrows 'for every input' (looked for: loops, veiled, ifaces, maps, wideKeys, modest, calm, conditions, laid).
  DERIVED. THE GIVEN ROWS OF THIS SEAT. 3 by the template 'for every input the law returns true; each argument reads behind the call as it read before'; 0 by the template 'total and deterministic' (their statements: YtjmbafcpbagpdaaTotals.lean).
  GIVEN WITH THE SEED: the statements are not yours to turn. If you find one false, say at which input.
  Laid BY PROGRAM, IN A SANDBOX (cutbox-rows.mjs): the forced cells as the released guide's own fill.sh prints them over the translation 8b7c944f7987d5f0… (all of the seat's roots in one cut). By AI agents, Wed Nov 11 2026. No macro, syntax, notation, axiom, sorry.
-/
import Derived.Test.YtjmbafcpbagpdaaChecked
import GoSem.Claim
import GoSem.ClaimJoined
import GoSem.ClaimMapViews
import Derived.JoinedTies
import Derived.KernelRfl
namespace Go.Proofs.Ytjmbafcpbagpdaa
/- THE CELL 'sum', in the pinned program and in every row, IS THE sha256 OF THE DUMP (.gsa) THAT YtjmbafcpbagpdaaProg.lean LOADS. Nothing in Lean hashes anything: it is a label: what it is worth is what the hold of that sum in a sandbox is worth. -/
noncomputable def Try.pinned : Pinned := { name := "ytjmbafcpbagpdaa", sum := "8b7c944f7987d5f01b6bccc6af6f331a4c18863c013e21d11c781fd9eb709abe", checked := Try.checked }
namespace Rows
def none {H : Type} : Left H := { results := [], args := [] }

/-- 'millracelaw19.GossipSafe': WHATEVER THE INPUT: true; the input reads as it did. -/
def gossipSafeSpec : ChangeSpec := { name := "gossipSafe", fn := fun _ => fun
  | [d1, d2] => { results := [.lit (.bool true)], args := [d1, d2] }
  | _ => none }
def gossipSafeRow : OpenClaim := { program := "ytjmbafcpbagpdaa", sum := "8b7c944f7987d5f01b6bccc6af6f331a4c18863c013e21d11c781fd9eb709abe", func := "millrace/millracelaw19.GossipSafe", spec := "gossipSafe", inPlace := ["maps.clone"], unfollowed := true, recurses := true, plainKeys := false, apart := false }
def GossipSafeSaid : Prop := gossipSafeRow.holds Try.pinned (OpenSpec.ofChange gossipSafeSpec)

/-- ITS FALSE NEIGHBOUR: 'it returns false'. Refute it at one input. -/
def gossipSafeWrong : ChangeSpec := { name := "gossipSafe", fn := fun _ => fun
  | [d1, d2] => { results := [.lit (.bool false)], args := [d1, d2] }
  | _ => none }
def GossipSafeWrongFalsely : Prop := gossipSafeRow.holds Try.pinned (OpenSpec.ofChange gossipSafeWrong)

/-- 'millracelaw19.GossipKeeps': WHATEVER THE INPUT: true; the input reads as it did. -/
def gossipKeepsSpec : ChangeSpec := { name := "gossipKeeps", fn := fun _ => fun
  | [d1, d2] => { results := [.lit (.bool true)], args := [d1, d2] }
  | _ => none }
def gossipKeepsRow : OpenClaim := { program := "ytjmbafcpbagpdaa", sum := "8b7c944f7987d5f01b6bccc6af6f331a4c18863c013e21d11c781fd9eb709abe", func := "millrace/millracelaw19.GossipKeeps", spec := "gossipKeeps", inPlace := ["maps.clone"], unfollowed := true, recurses := true, plainKeys := false, apart := false }
def GossipKeepsSaid : Prop := gossipKeepsRow.holds Try.pinned (OpenSpec.ofChange gossipKeepsSpec)

/-- ITS FALSE NEIGHBOUR: 'it returns false'. Refute it at one input. -/
def gossipKeepsWrong : ChangeSpec := { name := "gossipKeeps", fn := fun _ => fun
  | [d1, d2] => { results := [.lit (.bool false)], args := [d1, d2] }
  | _ => none }
def GossipKeepsWrongFalsely : Prop := gossipKeepsRow.holds Try.pinned (OpenSpec.ofChange gossipKeepsWrong)

/-- 'millracelaw19.GossipAlike': WHATEVER THE INPUT: true; the input reads as it did. -/
def gossipAlikeSpec : ChangeSpec := { name := "gossipAlike", fn := fun _ => fun
  | [d1, d2] => { results := [.lit (.bool true)], args := [d1, d2] }
  | _ => none }
def gossipAlikeRow : OpenClaim := { program := "ytjmbafcpbagpdaa", sum := "8b7c944f7987d5f01b6bccc6af6f331a4c18863c013e21d11c781fd9eb709abe", func := "millrace/millracelaw19.GossipAlike", spec := "gossipAlike", inPlace := ["maps.clone"], unfollowed := true, recurses := true, plainKeys := false, apart := false }
def GossipAlikeSaid : Prop := gossipAlikeRow.holds Try.pinned (OpenSpec.ofChange gossipAlikeSpec)

/-- ITS FALSE NEIGHBOUR: 'it returns false'. Refute it at one input. -/
def gossipAlikeWrong : ChangeSpec := { name := "gossipAlike", fn := fun _ => fun
  | [d1, d2] => { results := [.lit (.bool false)], args := [d1, d2] }
  | _ => none }
def GossipAlikeWrongFalsely : Prop := gossipAlikeRow.holds Try.pinned (OpenSpec.ofChange gossipAlikeWrong)

/- THE SECOND FORM. 'bulk': how many values and letters a reading holds, each counted each time it is reached (what is shared counts as often as it is met; a slice's spare places count too). A statement '..UptoSaid' is the law's where the arguments, and the package variables that the reading takes, are together of bulk at most 1048576: NARROWER than '..Said'. Prove '..Said' where nothing that the law and all that it calls make is longer than what came in: it says more and counts as full. Else prove '..UptoSaid'. A law counts once. -/
mutual
def uptoBulk {H : Type} : DataW H → Nat
  | .lit (.string bytes) => bytes.length + 1
  | .lit _ => 1
  | .nil => 1
  | .ptr d => uptoBulk d + 1
  | .slice elems spare => uptoBulkAll elems + uptoBulkAll spare + 1
  | .agg parts => uptoBulkAll parts + 1
  | .iface _ d => uptoBulk d + 1
  | .map entries => uptoBulkEntries entries + 1
  | .held _ => 1
def uptoBulkAll {H : Type} : List (DataW H) → Nat
  | [] => 0
  | d :: r => uptoBulk d + uptoBulkAll r
def uptoBulkEntries {H : Type} : List (Lit × DataW H) → Nat
  | [] => 0
  | x :: r => uptoBulkEntry x + uptoBulkEntries r
def uptoBulkEntry {H : Type} : Lit × DataW H → Nat
  | (.string bytes, d) => bytes.length + uptoBulk d + 1
  | (_, d) => uptoBulk d + 1
 end
def uptoSmall : (H : Type) → List (DataW H) → Bool := fun _ ds => decide (uptoBulkAll ds ≤ 1048576)
def OpenSpec.upto (s : _root_.Go.ChangeSpec) : _root_.Go.OpenSpec := { _root_.Go.OpenSpec.ofChange s with cond := some uptoSmall }

/-- 'millracelaw19.GossipSafe', WHERE WHAT IT READS IS OF BULK AT MOST 1048576: true; the input reads as it did. -/
def gossipSafeUptoRow : OpenClaim := { program := "ytjmbafcpbagpdaa", sum := "8b7c944f7987d5f01b6bccc6af6f331a4c18863c013e21d11c781fd9eb709abe", func := "millrace/millracelaw19.GossipSafe", spec := "gossipSafe", inPlace := ["maps.clone"], unfollowed := true, recurses := true, plainKeys := false, apart := false, narrowed := true }
def GossipSafeUptoSaid : Prop := gossipSafeUptoRow.holds Try.pinned (OpenSpec.upto gossipSafeSpec)

/-- 'millracelaw19.GossipKeeps', WHERE WHAT IT READS IS OF BULK AT MOST 1048576: true; the input reads as it did. -/
def gossipKeepsUptoRow : OpenClaim := { program := "ytjmbafcpbagpdaa", sum := "8b7c944f7987d5f01b6bccc6af6f331a4c18863c013e21d11c781fd9eb709abe", func := "millrace/millracelaw19.GossipKeeps", spec := "gossipKeeps", inPlace := ["maps.clone"], unfollowed := true, recurses := true, plainKeys := false, apart := false, narrowed := true }
def GossipKeepsUptoSaid : Prop := gossipKeepsUptoRow.holds Try.pinned (OpenSpec.upto gossipKeepsSpec)

/-- 'millracelaw19.GossipAlike', WHERE WHAT IT READS IS OF BULK AT MOST 1048576: true; the input reads as it did. -/
def gossipAlikeUptoRow : OpenClaim := { program := "ytjmbafcpbagpdaa", sum := "8b7c944f7987d5f01b6bccc6af6f331a4c18863c013e21d11c781fd9eb709abe", func := "millrace/millracelaw19.GossipAlike", spec := "gossipAlike", inPlace := ["maps.clone"], unfollowed := true, recurses := true, plainKeys := false, apart := false, narrowed := true }
def GossipAlikeUptoSaid : Prop := gossipAlikeUptoRow.holds Try.pinned (OpenSpec.upto gossipAlikeSpec)

end Rows
end Go.Proofs.Ytjmbafcpbagpdaa
