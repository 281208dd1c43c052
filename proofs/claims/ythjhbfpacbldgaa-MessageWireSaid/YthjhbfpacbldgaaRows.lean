/-
  No cell of these rows narrows 'for every input' (looked for: loops, veiled, ifaces, maps, wideKeys, modest, calm, conditions, laid).
  DERIVED. THE GIVEN ROWS OF THIS SEAT. 6 by the template 'for every input the law returns true; each argument reads behind the call as it read before'; 0 by the template 'total and deterministic' (their statements: YthjhbfpacbldgaaTotals.lean).
  GIVEN WITH THE SEED: the statements are not yours to turn. If you find one false, say at which input.
  Laid BY PROGRAM, IN A SANDBOX (cutbox-rows.mjs): the forced cells as the released guide's own fill.sh prints them over the translation e50f2a294f92ac65… (all of the seat's roots in one cut). By AI agents, Wed Nov 11 2026. No macro, syntax, notation, axiom, sorry.
-/
import Derived.Test.YthjhbfpacbldgaaChecked
import GoSem.Claim
import GoSem.ClaimJoined
import GoSem.ClaimMapViews
import Derived.JoinedTies
import Derived.KernelRfl
namespace Go.Proofs.Ythjhbfpacbldgaa
/- THE CELL 'sum', in the pinned program and in every row, IS THE sha256 OF THE DUMP (.gsa) THAT YthjhbfpacbldgaaProg.lean LOADS. Nothing in Lean hashes anything: it is a label: what it is worth is what the hold of that sum in a sandbox is worth. -/
noncomputable def Try.pinned : Pinned := { name := "ythjhbfpacbldgaa", sum := "e50f2a294f92ac659444bd424beaebf8d9fe42ece39fb89e0974bc55373ac878", checked := Try.checked }
namespace Rows
def none {H : Type} : Left H := { results := [], args := [] }

/-- 'baseboardlaw23.MessageBytes': WHATEVER THE INPUT: true; the input reads as it did. -/
def messageBytesSpec : ChangeSpec := { name := "messageBytes", fn := fun _ => fun
  | [d1, d2] => { results := [.lit (.bool true)], args := [d1, d2] }
  | _ => none }
def messageBytesRow : OpenClaim := { program := "ythjhbfpacbldgaa", sum := "e50f2a294f92ac659444bd424beaebf8d9fe42ece39fb89e0974bc55373ac878", func := "baseboard/baseboardlaw23.MessageBytes", spec := "messageBytes", apart := false }
def MessageBytesSaid : Prop := messageBytesRow.holds Try.pinned (OpenSpec.ofChange messageBytesSpec)

/-- ITS FALSE NEIGHBOUR: 'it returns false'. Refute it at one input. -/
def messageBytesWrong : ChangeSpec := { name := "messageBytes", fn := fun _ => fun
  | [d1, d2] => { results := [.lit (.bool false)], args := [d1, d2] }
  | _ => none }
def MessageBytesWrongFalsely : Prop := messageBytesRow.holds Try.pinned (OpenSpec.ofChange messageBytesWrong)

/-- 'baseboardlaw23.MessageReplies': WHATEVER THE INPUT: true; the input reads as it did. -/
def messageRepliesSpec : ChangeSpec := { name := "messageReplies", fn := fun _ => fun
  | [d1, d2, d3, d4, d5] => { results := [.lit (.bool true)], args := [d1, d2, d3, d4, d5] }
  | _ => none }
def messageRepliesRow : OpenClaim := { program := "ythjhbfpacbldgaa", sum := "e50f2a294f92ac659444bd424beaebf8d9fe42ece39fb89e0974bc55373ac878", func := "baseboard/baseboardlaw23.MessageReplies", spec := "messageReplies", apart := false }
def MessageRepliesSaid : Prop := messageRepliesRow.holds Try.pinned (OpenSpec.ofChange messageRepliesSpec)

/-- ITS FALSE NEIGHBOUR: 'it returns false'. Refute it at one input. -/
def messageRepliesWrong : ChangeSpec := { name := "messageReplies", fn := fun _ => fun
  | [d1, d2, d3, d4, d5] => { results := [.lit (.bool false)], args := [d1, d2, d3, d4, d5] }
  | _ => none }
def MessageRepliesWrongFalsely : Prop := messageRepliesRow.holds Try.pinned (OpenSpec.ofChange messageRepliesWrong)

/-- 'baseboardlaw23.MessageParses': WHATEVER THE INPUT: true; the input reads as it did. -/
def messageParsesSpec : ChangeSpec := { name := "messageParses", fn := fun _ => fun
  | [d1, d2] => { results := [.lit (.bool true)], args := [d1, d2] }
  | _ => none }
def messageParsesRow : OpenClaim := { program := "ythjhbfpacbldgaa", sum := "e50f2a294f92ac659444bd424beaebf8d9fe42ece39fb89e0974bc55373ac878", func := "baseboard/baseboardlaw23.MessageParses", spec := "messageParses", apart := false }
def MessageParsesSaid : Prop := messageParsesRow.holds Try.pinned (OpenSpec.ofChange messageParsesSpec)

/-- ITS FALSE NEIGHBOUR: 'it returns false'. Refute it at one input. -/
def messageParsesWrong : ChangeSpec := { name := "messageParses", fn := fun _ => fun
  | [d1, d2] => { results := [.lit (.bool false)], args := [d1, d2] }
  | _ => none }
def MessageParsesWrongFalsely : Prop := messageParsesRow.holds Try.pinned (OpenSpec.ofChange messageParsesWrong)

/-- 'baseboardlaw23.MessageReturns': WHATEVER THE INPUT: true; the input reads as it did. -/
def messageReturnsSpec : ChangeSpec := { name := "messageReturns", fn := fun _ => fun
  | [d1, d2, d3, d4] => { results := [.lit (.bool true)], args := [d1, d2, d3, d4] }
  | _ => none }
def messageReturnsRow : OpenClaim := { program := "ythjhbfpacbldgaa", sum := "e50f2a294f92ac659444bd424beaebf8d9fe42ece39fb89e0974bc55373ac878", func := "baseboard/baseboardlaw23.MessageReturns", spec := "messageReturns", apart := false }
def MessageReturnsSaid : Prop := messageReturnsRow.holds Try.pinned (OpenSpec.ofChange messageReturnsSpec)

/-- ITS FALSE NEIGHBOUR: 'it returns false'. Refute it at one input. -/
def messageReturnsWrong : ChangeSpec := { name := "messageReturns", fn := fun _ => fun
  | [d1, d2, d3, d4] => { results := [.lit (.bool false)], args := [d1, d2, d3, d4] }
  | _ => none }
def MessageReturnsWrongFalsely : Prop := messageReturnsRow.holds Try.pinned (OpenSpec.ofChange messageReturnsWrong)

/-- 'baseboardlaw23.MessageMatches': WHATEVER THE INPUT: true; the input reads as it did. -/
def messageMatchesSpec : ChangeSpec := { name := "messageMatches", fn := fun _ => fun
  | [d1, d2, d3, d4] => { results := [.lit (.bool true)], args := [d1, d2, d3, d4] }
  | _ => none }
def messageMatchesRow : OpenClaim := { program := "ythjhbfpacbldgaa", sum := "e50f2a294f92ac659444bd424beaebf8d9fe42ece39fb89e0974bc55373ac878", func := "baseboard/baseboardlaw23.MessageMatches", spec := "messageMatches", apart := false }
def MessageMatchesSaid : Prop := messageMatchesRow.holds Try.pinned (OpenSpec.ofChange messageMatchesSpec)

/-- ITS FALSE NEIGHBOUR: 'it returns false'. Refute it at one input. -/
def messageMatchesWrong : ChangeSpec := { name := "messageMatches", fn := fun _ => fun
  | [d1, d2, d3, d4] => { results := [.lit (.bool false)], args := [d1, d2, d3, d4] }
  | _ => none }
def MessageMatchesWrongFalsely : Prop := messageMatchesRow.holds Try.pinned (OpenSpec.ofChange messageMatchesWrong)

/-- 'baseboardlaw23.MessageWire': WHATEVER THE INPUT: true; the input reads as it did. -/
def messageWireSpec : ChangeSpec := { name := "messageWire", fn := fun _ => fun
  | [d1, d2, d3, d4] => { results := [.lit (.bool true)], args := [d1, d2, d3, d4] }
  | _ => none }
def messageWireRow : OpenClaim := { program := "ythjhbfpacbldgaa", sum := "e50f2a294f92ac659444bd424beaebf8d9fe42ece39fb89e0974bc55373ac878", func := "baseboard/baseboardlaw23.MessageWire", spec := "messageWire", unfollowed := true, recurses := true, apart := false }
def MessageWireSaid : Prop := messageWireRow.holds Try.pinned (OpenSpec.ofChange messageWireSpec)

/-- ITS FALSE NEIGHBOUR: 'it returns false'. Refute it at one input. -/
def messageWireWrong : ChangeSpec := { name := "messageWire", fn := fun _ => fun
  | [d1, d2, d3, d4] => { results := [.lit (.bool false)], args := [d1, d2, d3, d4] }
  | _ => none }
def MessageWireWrongFalsely : Prop := messageWireRow.holds Try.pinned (OpenSpec.ofChange messageWireWrong)

/- THE SECOND FORM. 'bulk': how many values and letters a reading holds, each counted each time it is reached (what is shared counts as often as it is met; a slice's spare places count too). A statement '..UptoSaid' is the law's where the arguments, and the package variables that the reading takes, are together of bulk at most 1048576: NARROWER than '..Said'. Prove '..Said' where nothing that the law and all that it calls make is longer than what came in: it says more and counts as full. Else prove '..UptoSaid'. A law counts once. -/
mutual
def uptoBulk {H : Type} : DataW H → Nat
  | .lit (.string bytes) => bytes.length + 1
  | .lit _ => 1
  | .nil => 1
  | .ptr d => uptoBulk d + 1
  | .slice elems spare => uptoBulkAll elems + uptoBulkAll spare + 1
  | .agg parts => uptoBulkAll parts + 1
  | .iface _ d => uptoBulk d + 1
  | .map entries => uptoBulkEntries entries + 1
  | .held _ => 1
def uptoBulkAll {H : Type} : List (DataW H) → Nat
  | [] => 0
  | d :: r => uptoBulk d + uptoBulkAll r
def uptoBulkEntries {H : Type} : List (Lit × DataW H) → Nat
  | [] => 0
  | x :: r => uptoBulkEntry x + uptoBulkEntries r
def uptoBulkEntry {H : Type} : Lit × DataW H → Nat
  | (.string bytes, d) => bytes.length + uptoBulk d + 1
  | (_, d) => uptoBulk d + 1
 end
def uptoSmall : (H : Type) → List (DataW H) → Bool := fun _ ds => decide (uptoBulkAll ds ≤ 1048576)
def OpenSpec.upto (s : _root_.Go.ChangeSpec) : _root_.Go.OpenSpec := { _root_.Go.OpenSpec.ofChange s with cond := some uptoSmall }

/-- 'baseboardlaw23.MessageBytes', WHERE WHAT IT READS IS OF BULK AT MOST 1048576: true; the input reads as it did. -/
def messageBytesUptoRow : OpenClaim := { program := "ythjhbfpacbldgaa", sum := "e50f2a294f92ac659444bd424beaebf8d9fe42ece39fb89e0974bc55373ac878", func := "baseboard/baseboardlaw23.MessageBytes", spec := "messageBytes", apart := false, narrowed := true }
def MessageBytesUptoSaid : Prop := messageBytesUptoRow.holds Try.pinned (OpenSpec.upto messageBytesSpec)

/-- 'baseboardlaw23.MessageReplies', WHERE WHAT IT READS IS OF BULK AT MOST 1048576: true; the input reads as it did. -/
def messageRepliesUptoRow : OpenClaim := { program := "ythjhbfpacbldgaa", sum := "e50f2a294f92ac659444bd424beaebf8d9fe42ece39fb89e0974bc55373ac878", func := "baseboard/baseboardlaw23.MessageReplies", spec := "messageReplies", apart := false, narrowed := true }
def MessageRepliesUptoSaid : Prop := messageRepliesUptoRow.holds Try.pinned (OpenSpec.upto messageRepliesSpec)

/-- 'baseboardlaw23.MessageParses', WHERE WHAT IT READS IS OF BULK AT MOST 1048576: true; the input reads as it did. -/
def messageParsesUptoRow : OpenClaim := { program := "ythjhbfpacbldgaa", sum := "e50f2a294f92ac659444bd424beaebf8d9fe42ece39fb89e0974bc55373ac878", func := "baseboard/baseboardlaw23.MessageParses", spec := "messageParses", apart := false, narrowed := true }
def MessageParsesUptoSaid : Prop := messageParsesUptoRow.holds Try.pinned (OpenSpec.upto messageParsesSpec)

/-- 'baseboardlaw23.MessageReturns', WHERE WHAT IT READS IS OF BULK AT MOST 1048576: true; the input reads as it did. -/
def messageReturnsUptoRow : OpenClaim := { program := "ythjhbfpacbldgaa", sum := "e50f2a294f92ac659444bd424beaebf8d9fe42ece39fb89e0974bc55373ac878", func := "baseboard/baseboardlaw23.MessageReturns", spec := "messageReturns", apart := false, narrowed := true }
def MessageReturnsUptoSaid : Prop := messageReturnsUptoRow.holds Try.pinned (OpenSpec.upto messageReturnsSpec)

/-- 'baseboardlaw23.MessageMatches', WHERE WHAT IT READS IS OF BULK AT MOST 1048576: true; the input reads as it did. -/
def messageMatchesUptoRow : OpenClaim := { program := "ythjhbfpacbldgaa", sum := "e50f2a294f92ac659444bd424beaebf8d9fe42ece39fb89e0974bc55373ac878", func := "baseboard/baseboardlaw23.MessageMatches", spec := "messageMatches", apart := false, narrowed := true }
def MessageMatchesUptoSaid : Prop := messageMatchesUptoRow.holds Try.pinned (OpenSpec.upto messageMatchesSpec)

/-- 'baseboardlaw23.MessageWire', WHERE WHAT IT READS IS OF BULK AT MOST 1048576: true; the input reads as it did. -/
def messageWireUptoRow : OpenClaim := { program := "ythjhbfpacbldgaa", sum := "e50f2a294f92ac659444bd424beaebf8d9fe42ece39fb89e0974bc55373ac878", func := "baseboard/baseboardlaw23.MessageWire", spec := "messageWire", unfollowed := true, recurses := true, apart := false, narrowed := true }
def MessageWireUptoSaid : Prop := messageWireUptoRow.holds Try.pinned (OpenSpec.upto messageWireSpec)

end Rows
end Go.Proofs.Ythjhbfpacbldgaa
