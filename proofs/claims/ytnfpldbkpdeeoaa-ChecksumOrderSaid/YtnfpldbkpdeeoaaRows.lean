/-
  No cell of these rows narrows 'for every input' (looked for: loops, veiled, ifaces, maps, wideKeys, modest, calm, conditions, laid).
  DERIVED. THE GIVEN ROWS OF THIS SEAT. 10 by the template 'for every input the law returns true; each argument reads behind the call as it read before'; 0 by the template 'total and deterministic' (their statements: YtnfpldbkpdeeoaaTotals.lean).
  GIVEN WITH THE SEED: the statements are not yours to turn. If you find one false, say at which input.
  Laid BY PROGRAM, IN A SANDBOX (cutbox-rows.mjs): the forced cells as the released guide's own fill.sh prints them over the translation 26dae242c983f2cc… (all of the seat's roots in one cut). By AI agents, Wed Nov 11 2026. No macro, syntax, notation, axiom, sorry.
-/
import Derived.Test.YtnfpldbkpdeeoaaChecked
import GoSem.Claim
import GoSem.ClaimJoined
import GoSem.ClaimMapViews
import Derived.JoinedTies
import Derived.KernelRfl
namespace Go.Proofs.Ytnfpldbkpdeeoaa
/- THE CELL 'sum', in the pinned program and in every row, IS THE sha256 OF THE DUMP (.gsa) THAT YtnfpldbkpdeeoaaProg.lean LOADS. Nothing in Lean hashes anything: it is a label: what it is worth is what the hold of that sum in a sandbox is worth. -/
noncomputable def Try.pinned : Pinned := { name := "ytnfpldbkpdeeoaa", sum := "26dae242c983f2cc0aff0450fd85cd60bdc55f6d5fe2bcd500d1fab6075c55a1", checked := Try.checked }
namespace Rows
def none {H : Type} : Left H := { results := [], args := [] }

/-- 'baseboardlaw01.ChecksumSums': WHATEVER THE INPUT: true; the input reads as it did. -/
def checksumSumsSpec : ChangeSpec := { name := "checksumSums", fn := fun _ => fun
  | [d] => { results := [.lit (.bool true)], args := [d] }
  | _ => none }
def checksumSumsRow : OpenClaim := { program := "ytnfpldbkpdeeoaa", sum := "26dae242c983f2cc0aff0450fd85cd60bdc55f6d5fe2bcd500d1fab6075c55a1", func := "baseboard/baseboardlaw01.ChecksumSums", spec := "checksumSums", apart := false }
def ChecksumSumsSaid : Prop := checksumSumsRow.holds Try.pinned (OpenSpec.ofChange checksumSumsSpec)

/-- ITS FALSE NEIGHBOUR: 'it returns false'. Refute it at one input. -/
def checksumSumsWrong : ChangeSpec := { name := "checksumSums", fn := fun _ => fun
  | [d] => { results := [.lit (.bool false)], args := [d] }
  | _ => none }
def ChecksumSumsWrongFalsely : Prop := checksumSumsRow.holds Try.pinned (OpenSpec.ofChange checksumSumsWrong)

/-- 'baseboardlaw01.ChecksumLinear': WHATEVER THE INPUT: true; the input reads as it did. -/
def checksumLinearSpec : ChangeSpec := { name := "checksumLinear", fn := fun _ => fun
  | [d1, d2] => { results := [.lit (.bool true)], args := [d1, d2] }
  | _ => none }
def checksumLinearRow : OpenClaim := { program := "ytnfpldbkpdeeoaa", sum := "26dae242c983f2cc0aff0450fd85cd60bdc55f6d5fe2bcd500d1fab6075c55a1", func := "baseboard/baseboardlaw01.ChecksumLinear", spec := "checksumLinear", apart := false }
def ChecksumLinearSaid : Prop := checksumLinearRow.holds Try.pinned (OpenSpec.ofChange checksumLinearSpec)

/-- ITS FALSE NEIGHBOUR: 'it returns false'. Refute it at one input. -/
def checksumLinearWrong : ChangeSpec := { name := "checksumLinear", fn := fun _ => fun
  | [d1, d2] => { results := [.lit (.bool false)], args := [d1, d2] }
  | _ => none }
def ChecksumLinearWrongFalsely : Prop := checksumLinearRow.holds Try.pinned (OpenSpec.ofChange checksumLinearWrong)

/-- 'baseboardlaw01.ChecksumOrder': WHATEVER THE INPUT: true; the input reads as it did. -/
def checksumOrderSpec : ChangeSpec := { name := "checksumOrder", fn := fun _ => fun
  | [d1, d2, d3, d4] => { results := [.lit (.bool true)], args := [d1, d2, d3, d4] }
  | _ => none }
def checksumOrderRow : OpenClaim := { program := "ytnfpldbkpdeeoaa", sum := "26dae242c983f2cc0aff0450fd85cd60bdc55f6d5fe2bcd500d1fab6075c55a1", func := "baseboard/baseboardlaw01.ChecksumOrder", spec := "checksumOrder", apart := false }
def ChecksumOrderSaid : Prop := checksumOrderRow.holds Try.pinned (OpenSpec.ofChange checksumOrderSpec)

/-- ITS FALSE NEIGHBOUR: 'it returns false'. Refute it at one input. -/
def checksumOrderWrong : ChangeSpec := { name := "checksumOrder", fn := fun _ => fun
  | [d1, d2, d3, d4] => { results := [.lit (.bool false)], args := [d1, d2, d3, d4] }
  | _ => none }
def ChecksumOrderWrongFalsely : Prop := checksumOrderRow.holds Try.pinned (OpenSpec.ofChange checksumOrderWrong)

/-- 'baseboardlaw01.ChecksumBurst': WHATEVER THE INPUT: true; the input reads as it did. -/
def checksumBurstSpec : ChangeSpec := { name := "checksumBurst", fn := fun _ => fun
  | [d1, d2, d3] => { results := [.lit (.bool true)], args := [d1, d2, d3] }
  | _ => none }
def checksumBurstRow : OpenClaim := { program := "ytnfpldbkpdeeoaa", sum := "26dae242c983f2cc0aff0450fd85cd60bdc55f6d5fe2bcd500d1fab6075c55a1", func := "baseboard/baseboardlaw01.ChecksumBurst", spec := "checksumBurst", apart := false }
def ChecksumBurstSaid : Prop := checksumBurstRow.holds Try.pinned (OpenSpec.ofChange checksumBurstSpec)

/-- ITS FALSE NEIGHBOUR: 'it returns false'. Refute it at one input. -/
def checksumBurstWrong : ChangeSpec := { name := "checksumBurst", fn := fun _ => fun
  | [d1, d2, d3] => { results := [.lit (.bool false)], args := [d1, d2, d3] }
  | _ => none }
def ChecksumBurstWrongFalsely : Prop := checksumBurstRow.holds Try.pinned (OpenSpec.ofChange checksumBurstWrong)

/-- 'baseboardlaw01.ChecksumOdd': WHATEVER THE INPUT: true; the input reads as it did. -/
def checksumOddSpec : ChangeSpec := { name := "checksumOdd", fn := fun _ => fun
  | [d1, d2] => { results := [.lit (.bool true)], args := [d1, d2] }
  | _ => none }
def checksumOddRow : OpenClaim := { program := "ytnfpldbkpdeeoaa", sum := "26dae242c983f2cc0aff0450fd85cd60bdc55f6d5fe2bcd500d1fab6075c55a1", func := "baseboard/baseboardlaw01.ChecksumOdd", spec := "checksumOdd", apart := false }
def ChecksumOddSaid : Prop := checksumOddRow.holds Try.pinned (OpenSpec.ofChange checksumOddSpec)

/-- ITS FALSE NEIGHBOUR: 'it returns false'. Refute it at one input. -/
def checksumOddWrong : ChangeSpec := { name := "checksumOdd", fn := fun _ => fun
  | [d1, d2] => { results := [.lit (.bool false)], args := [d1, d2] }
  | _ => none }
def ChecksumOddWrongFalsely : Prop := checksumOddRow.holds Try.pinned (OpenSpec.ofChange checksumOddWrong)

/-- 'baseboardlaw01.ChecksumPairs': WHATEVER THE INPUT: true; the input reads as it did. -/
def checksumPairsSpec : ChangeSpec := { name := "checksumPairs", fn := fun _ => fun
  | [d1, d2, d3] => { results := [.lit (.bool true)], args := [d1, d2, d3] }
  | _ => none }
def checksumPairsRow : OpenClaim := { program := "ytnfpldbkpdeeoaa", sum := "26dae242c983f2cc0aff0450fd85cd60bdc55f6d5fe2bcd500d1fab6075c55a1", func := "baseboard/baseboardlaw01.ChecksumPairs", spec := "checksumPairs", apart := false }
def ChecksumPairsSaid : Prop := checksumPairsRow.holds Try.pinned (OpenSpec.ofChange checksumPairsSpec)

/-- ITS FALSE NEIGHBOUR: 'it returns false'. Refute it at one input. -/
def checksumPairsWrong : ChangeSpec := { name := "checksumPairs", fn := fun _ => fun
  | [d1, d2, d3] => { results := [.lit (.bool false)], args := [d1, d2, d3] }
  | _ => none }
def ChecksumPairsWrongFalsely : Prop := checksumPairsRow.holds Try.pinned (OpenSpec.ofChange checksumPairsWrong)

/-- 'baseboardlaw01.ChecksumLong': WHATEVER THE INPUT: true; the input reads as it did. -/
def checksumLongSpec : ChangeSpec := { name := "checksumLong", fn := fun _ => fun
  | [d1, d2, d3] => { results := [.lit (.bool true)], args := [d1, d2, d3] }
  | _ => none }
def checksumLongRow : OpenClaim := { program := "ytnfpldbkpdeeoaa", sum := "26dae242c983f2cc0aff0450fd85cd60bdc55f6d5fe2bcd500d1fab6075c55a1", func := "baseboard/baseboardlaw01.ChecksumLong", spec := "checksumLong", apart := false }
def ChecksumLongSaid : Prop := checksumLongRow.holds Try.pinned (OpenSpec.ofChange checksumLongSpec)

/-- ITS FALSE NEIGHBOUR: 'it returns false'. Refute it at one input. -/
def checksumLongWrong : ChangeSpec := { name := "checksumLong", fn := fun _ => fun
  | [d1, d2, d3] => { results := [.lit (.bool false)], args := [d1, d2, d3] }
  | _ => none }
def ChecksumLongWrongFalsely : Prop := checksumLongRow.holds Try.pinned (OpenSpec.ofChange checksumLongWrong)

/-- 'baseboardlaw01.ChecksumSeals': WHATEVER THE INPUT: true; the input reads as it did. -/
def checksumSealsSpec : ChangeSpec := { name := "checksumSeals", fn := fun _ => fun
  | [d] => { results := [.lit (.bool true)], args := [d] }
  | _ => none }
def checksumSealsRow : OpenClaim := { program := "ytnfpldbkpdeeoaa", sum := "26dae242c983f2cc0aff0450fd85cd60bdc55f6d5fe2bcd500d1fab6075c55a1", func := "baseboard/baseboardlaw01.ChecksumSeals", spec := "checksumSeals", apart := false }
def ChecksumSealsSaid : Prop := checksumSealsRow.holds Try.pinned (OpenSpec.ofChange checksumSealsSpec)

/-- ITS FALSE NEIGHBOUR: 'it returns false'. Refute it at one input. -/
def checksumSealsWrong : ChangeSpec := { name := "checksumSeals", fn := fun _ => fun
  | [d] => { results := [.lit (.bool false)], args := [d] }
  | _ => none }
def ChecksumSealsWrongFalsely : Prop := checksumSealsRow.holds Try.pinned (OpenSpec.ofChange checksumSealsWrong)

/-- 'baseboardlaw01.ChecksumReturns': WHATEVER THE INPUT: true; the input reads as it did. -/
def checksumReturnsSpec : ChangeSpec := { name := "checksumReturns", fn := fun _ => fun
  | [d] => { results := [.lit (.bool true)], args := [d] }
  | _ => none }
def checksumReturnsRow : OpenClaim := { program := "ytnfpldbkpdeeoaa", sum := "26dae242c983f2cc0aff0450fd85cd60bdc55f6d5fe2bcd500d1fab6075c55a1", func := "baseboard/baseboardlaw01.ChecksumReturns", spec := "checksumReturns", apart := false }
def ChecksumReturnsSaid : Prop := checksumReturnsRow.holds Try.pinned (OpenSpec.ofChange checksumReturnsSpec)

/-- ITS FALSE NEIGHBOUR: 'it returns false'. Refute it at one input. -/
def checksumReturnsWrong : ChangeSpec := { name := "checksumReturns", fn := fun _ => fun
  | [d] => { results := [.lit (.bool false)], args := [d] }
  | _ => none }
def ChecksumReturnsWrongFalsely : Prop := checksumReturnsRow.holds Try.pinned (OpenSpec.ofChange checksumReturnsWrong)

/-- 'baseboardlaw01.ChecksumByte': WHATEVER THE INPUT: true; the input reads as it did. -/
def checksumByteSpec : ChangeSpec := { name := "checksumByte", fn := fun _ => fun
  | [d1, d2, d3] => { results := [.lit (.bool true)], args := [d1, d2, d3] }
  | _ => none }
def checksumByteRow : OpenClaim := { program := "ytnfpldbkpdeeoaa", sum := "26dae242c983f2cc0aff0450fd85cd60bdc55f6d5fe2bcd500d1fab6075c55a1", func := "baseboard/baseboardlaw01.ChecksumByte", spec := "checksumByte", apart := false }
def ChecksumByteSaid : Prop := checksumByteRow.holds Try.pinned (OpenSpec.ofChange checksumByteSpec)

/-- ITS FALSE NEIGHBOUR: 'it returns false'. Refute it at one input. -/
def checksumByteWrong : ChangeSpec := { name := "checksumByte", fn := fun _ => fun
  | [d1, d2, d3] => { results := [.lit (.bool false)], args := [d1, d2, d3] }
  | _ => none }
def ChecksumByteWrongFalsely : Prop := checksumByteRow.holds Try.pinned (OpenSpec.ofChange checksumByteWrong)

/- THE SECOND FORM. 'bulk': how many values and letters a reading holds, each counted each time it is reached (what is shared counts as often as it is met; a slice's spare places count too). A statement '..UptoSaid' is the law's where the arguments, and the package variables that the reading takes, are together of bulk at most 1048576: NARROWER than '..Said'. Prove '..Said' where nothing that the law and all that it calls make is longer than what came in: it says more and counts as full. Else prove '..UptoSaid'. A law counts once. -/
mutual
def uptoBulk {H : Type} : DataW H → Nat
  | .lit (.string bytes) => bytes.length + 1
  | .lit _ => 1
  | .nil => 1
  | .ptr d => uptoBulk d + 1
  | .slice elems spare => uptoBulkAll elems + uptoBulkAll spare + 1
  | .agg parts => uptoBulkAll parts + 1
  | .iface _ d => uptoBulk d + 1
  | .map entries => uptoBulkEntries entries + 1
  | .held _ => 1
def uptoBulkAll {H : Type} : List (DataW H) → Nat
  | [] => 0
  | d :: r => uptoBulk d + uptoBulkAll r
def uptoBulkEntries {H : Type} : List (Lit × DataW H) → Nat
  | [] => 0
  | x :: r => uptoBulkEntry x + uptoBulkEntries r
def uptoBulkEntry {H : Type} : Lit × DataW H → Nat
  | (.string bytes, d) => bytes.length + uptoBulk d + 1
  | (_, d) => uptoBulk d + 1
 end
def uptoSmall : (H : Type) → List (DataW H) → Bool := fun _ ds => decide (uptoBulkAll ds ≤ 1048576)
def OpenSpec.upto (s : _root_.Go.ChangeSpec) : _root_.Go.OpenSpec := { _root_.Go.OpenSpec.ofChange s with cond := some uptoSmall }

/-- 'baseboardlaw01.ChecksumSums', WHERE WHAT IT READS IS OF BULK AT MOST 1048576: true; the input reads as it did. -/
def checksumSumsUptoRow : OpenClaim := { program := "ytnfpldbkpdeeoaa", sum := "26dae242c983f2cc0aff0450fd85cd60bdc55f6d5fe2bcd500d1fab6075c55a1", func := "baseboard/baseboardlaw01.ChecksumSums", spec := "checksumSums", apart := false, narrowed := true }
def ChecksumSumsUptoSaid : Prop := checksumSumsUptoRow.holds Try.pinned (OpenSpec.upto checksumSumsSpec)

/-- 'baseboardlaw01.ChecksumLinear', WHERE WHAT IT READS IS OF BULK AT MOST 1048576: true; the input reads as it did. -/
def checksumLinearUptoRow : OpenClaim := { program := "ytnfpldbkpdeeoaa", sum := "26dae242c983f2cc0aff0450fd85cd60bdc55f6d5fe2bcd500d1fab6075c55a1", func := "baseboard/baseboardlaw01.ChecksumLinear", spec := "checksumLinear", apart := false, narrowed := true }
def ChecksumLinearUptoSaid : Prop := checksumLinearUptoRow.holds Try.pinned (OpenSpec.upto checksumLinearSpec)

/-- 'baseboardlaw01.ChecksumOrder', WHERE WHAT IT READS IS OF BULK AT MOST 1048576: true; the input reads as it did. -/
def checksumOrderUptoRow : OpenClaim := { program := "ytnfpldbkpdeeoaa", sum := "26dae242c983f2cc0aff0450fd85cd60bdc55f6d5fe2bcd500d1fab6075c55a1", func := "baseboard/baseboardlaw01.ChecksumOrder", spec := "checksumOrder", apart := false, narrowed := true }
def ChecksumOrderUptoSaid : Prop := checksumOrderUptoRow.holds Try.pinned (OpenSpec.upto checksumOrderSpec)

/-- 'baseboardlaw01.ChecksumBurst', WHERE WHAT IT READS IS OF BULK AT MOST 1048576: true; the input reads as it did. -/
def checksumBurstUptoRow : OpenClaim := { program := "ytnfpldbkpdeeoaa", sum := "26dae242c983f2cc0aff0450fd85cd60bdc55f6d5fe2bcd500d1fab6075c55a1", func := "baseboard/baseboardlaw01.ChecksumBurst", spec := "checksumBurst", apart := false, narrowed := true }
def ChecksumBurstUptoSaid : Prop := checksumBurstUptoRow.holds Try.pinned (OpenSpec.upto checksumBurstSpec)

/-- 'baseboardlaw01.ChecksumOdd', WHERE WHAT IT READS IS OF BULK AT MOST 1048576: true; the input reads as it did. -/
def checksumOddUptoRow : OpenClaim := { program := "ytnfpldbkpdeeoaa", sum := "26dae242c983f2cc0aff0450fd85cd60bdc55f6d5fe2bcd500d1fab6075c55a1", func := "baseboard/baseboardlaw01.ChecksumOdd", spec := "checksumOdd", apart := false, narrowed := true }
def ChecksumOddUptoSaid : Prop := checksumOddUptoRow.holds Try.pinned (OpenSpec.upto checksumOddSpec)

/-- 'baseboardlaw01.ChecksumPairs', WHERE WHAT IT READS IS OF BULK AT MOST 1048576: true; the input reads as it did. -/
def checksumPairsUptoRow : OpenClaim := { program := "ytnfpldbkpdeeoaa", sum := "26dae242c983f2cc0aff0450fd85cd60bdc55f6d5fe2bcd500d1fab6075c55a1", func := "baseboard/baseboardlaw01.ChecksumPairs", spec := "checksumPairs", apart := false, narrowed := true }
def ChecksumPairsUptoSaid : Prop := checksumPairsUptoRow.holds Try.pinned (OpenSpec.upto checksumPairsSpec)

/-- 'baseboardlaw01.ChecksumLong', WHERE WHAT IT READS IS OF BULK AT MOST 1048576: true; the input reads as it did. -/
def checksumLongUptoRow : OpenClaim := { program := "ytnfpldbkpdeeoaa", sum := "26dae242c983f2cc0aff0450fd85cd60bdc55f6d5fe2bcd500d1fab6075c55a1", func := "baseboard/baseboardlaw01.ChecksumLong", spec := "checksumLong", apart := false, narrowed := true }
def ChecksumLongUptoSaid : Prop := checksumLongUptoRow.holds Try.pinned (OpenSpec.upto checksumLongSpec)

/-- 'baseboardlaw01.ChecksumSeals', WHERE WHAT IT READS IS OF BULK AT MOST 1048576: true; the input reads as it did. -/
def checksumSealsUptoRow : OpenClaim := { program := "ytnfpldbkpdeeoaa", sum := "26dae242c983f2cc0aff0450fd85cd60bdc55f6d5fe2bcd500d1fab6075c55a1", func := "baseboard/baseboardlaw01.ChecksumSeals", spec := "checksumSeals", apart := false, narrowed := true }
def ChecksumSealsUptoSaid : Prop := checksumSealsUptoRow.holds Try.pinned (OpenSpec.upto checksumSealsSpec)

/-- 'baseboardlaw01.ChecksumReturns', WHERE WHAT IT READS IS OF BULK AT MOST 1048576: true; the input reads as it did. -/
def checksumReturnsUptoRow : OpenClaim := { program := "ytnfpldbkpdeeoaa", sum := "26dae242c983f2cc0aff0450fd85cd60bdc55f6d5fe2bcd500d1fab6075c55a1", func := "baseboard/baseboardlaw01.ChecksumReturns", spec := "checksumReturns", apart := false, narrowed := true }
def ChecksumReturnsUptoSaid : Prop := checksumReturnsUptoRow.holds Try.pinned (OpenSpec.upto checksumReturnsSpec)

/-- 'baseboardlaw01.ChecksumByte', WHERE WHAT IT READS IS OF BULK AT MOST 1048576: true; the input reads as it did. -/
def checksumByteUptoRow : OpenClaim := { program := "ytnfpldbkpdeeoaa", sum := "26dae242c983f2cc0aff0450fd85cd60bdc55f6d5fe2bcd500d1fab6075c55a1", func := "baseboard/baseboardlaw01.ChecksumByte", spec := "checksumByte", apart := false, narrowed := true }
def ChecksumByteUptoSaid : Prop := checksumByteUptoRow.holds Try.pinned (OpenSpec.upto checksumByteSpec)

end Rows
end Go.Proofs.Ytnfpldbkpdeeoaa
