/-
  No cell of these rows narrows 'for every input' (looked for: loops, veiled, ifaces, maps, wideKeys, modest, calm, conditions, laid).
  DERIVED. THE GIVEN ROWS OF THIS SEAT. 5 by the template 'for every input the law returns true; each argument reads behind the call as it read before'; 0 by the template 'total and deterministic' (their statements: YtmjilnfeddaekaaTotals.lean).
  GIVEN WITH THE SEED: the statements are not yours to turn. If you find one false, say at which input.
  Laid BY PROGRAM, IN A SANDBOX (cutbox-rows.mjs): the forced cells as the released guide's own fill.sh prints them over the translation 537a87d38fa25ac6… (all of the seat's roots in one cut). By AI agents, Wed Nov 11 2026. No macro, syntax, notation, axiom, sorry.
-/
import Derived.Test.YtmjilnfeddaekaaChecked
import GoSem.Claim
import GoSem.ClaimJoined
import GoSem.ClaimMapViews
import Derived.JoinedTies
import Derived.KernelRfl
namespace Go.Proofs.Ytmjilnfeddaekaa
/- THE CELL 'sum', in the pinned program and in every row, IS THE sha256 OF THE DUMP (.gsa) THAT YtmjilnfeddaekaaProg.lean LOADS. Nothing in Lean hashes anything: it is a label: what it is worth is what the hold of that sum in a sandbox is worth. -/
noncomputable def Try.pinned : Pinned := { name := "ytmjilnfeddaekaa", sum := "537a87d38fa25ac664174d52d37e965ffc5e52b3127b64de5ab6a3448e5529d5", checked := Try.checked }
namespace Rows
def none {H : Type} : Left H := { results := [], args := [] }

/-- 'baseboardlaw20.FrameCompares': WHATEVER THE INPUT: true; the input reads as it did. -/
def frameComparesSpec : ChangeSpec := { name := "frameCompares", fn := fun _ => fun
  | [d1, d2, d3, d4] => { results := [.lit (.bool true)], args := [d1, d2, d3, d4] }
  | _ => none }
def frameComparesRow : OpenClaim := { program := "ytmjilnfeddaekaa", sum := "537a87d38fa25ac664174d52d37e965ffc5e52b3127b64de5ab6a3448e5529d5", func := "baseboard/baseboardlaw20.FrameCompares", spec := "frameCompares", inPlace := ["internal/bytealg.Compare"], apart := false }
def FrameComparesSaid : Prop := frameComparesRow.holds Try.pinned (OpenSpec.ofChange frameComparesSpec)

/-- ITS FALSE NEIGHBOUR: 'it returns false'. Refute it at one input. -/
def frameComparesWrong : ChangeSpec := { name := "frameCompares", fn := fun _ => fun
  | [d1, d2, d3, d4] => { results := [.lit (.bool false)], args := [d1, d2, d3, d4] }
  | _ => none }
def FrameComparesWrongFalsely : Prop := frameComparesRow.holds Try.pinned (OpenSpec.ofChange frameComparesWrong)

/-- 'baseboardlaw20.FrameOrder': WHATEVER THE INPUT: true; the input reads as it did. -/
def frameOrderSpec : ChangeSpec := { name := "frameOrder", fn := fun _ => fun
  | [d1, d2, d3] => { results := [.lit (.bool true)], args := [d1, d2, d3] }
  | _ => none }
def frameOrderRow : OpenClaim := { program := "ytmjilnfeddaekaa", sum := "537a87d38fa25ac664174d52d37e965ffc5e52b3127b64de5ab6a3448e5529d5", func := "baseboard/baseboardlaw20.FrameOrder", spec := "frameOrder", inPlace := ["internal/bytealg.Compare"], apart := false }
def FrameOrderSaid : Prop := frameOrderRow.holds Try.pinned (OpenSpec.ofChange frameOrderSpec)

/-- ITS FALSE NEIGHBOUR: 'it returns false'. Refute it at one input. -/
def frameOrderWrong : ChangeSpec := { name := "frameOrder", fn := fun _ => fun
  | [d1, d2, d3] => { results := [.lit (.bool false)], args := [d1, d2, d3] }
  | _ => none }
def FrameOrderWrongFalsely : Prop := frameOrderRow.holds Try.pinned (OpenSpec.ofChange frameOrderWrong)

/-- 'baseboardlaw20.FrameBytes': WHATEVER THE INPUT: true; the input reads as it did. -/
def frameBytesSpec : ChangeSpec := { name := "frameBytes", fn := fun _ => fun
  | [d1, d2, d3] => { results := [.lit (.bool true)], args := [d1, d2, d3] }
  | _ => none }
def frameBytesRow : OpenClaim := { program := "ytmjilnfeddaekaa", sum := "537a87d38fa25ac664174d52d37e965ffc5e52b3127b64de5ab6a3448e5529d5", func := "baseboard/baseboardlaw20.FrameBytes", spec := "frameBytes", inPlace := ["internal/bytealg.Compare"], apart := false }
def FrameBytesSaid : Prop := frameBytesRow.holds Try.pinned (OpenSpec.ofChange frameBytesSpec)

/-- ITS FALSE NEIGHBOUR: 'it returns false'. Refute it at one input. -/
def frameBytesWrong : ChangeSpec := { name := "frameBytes", fn := fun _ => fun
  | [d1, d2, d3] => { results := [.lit (.bool false)], args := [d1, d2, d3] }
  | _ => none }
def FrameBytesWrongFalsely : Prop := frameBytesRow.holds Try.pinned (OpenSpec.ofChange frameBytesWrong)

/-- 'baseboardlaw20.FrameReturns': WHATEVER THE INPUT: true; the input reads as it did. -/
def frameReturnsSpec : ChangeSpec := { name := "frameReturns", fn := fun _ => fun
  | [d1, d2, d3] => { results := [.lit (.bool true)], args := [d1, d2, d3] }
  | _ => none }
def frameReturnsRow : OpenClaim := { program := "ytmjilnfeddaekaa", sum := "537a87d38fa25ac664174d52d37e965ffc5e52b3127b64de5ab6a3448e5529d5", func := "baseboard/baseboardlaw20.FrameReturns", spec := "frameReturns", inPlace := ["internal/bytealg.Compare"], apart := false }
def FrameReturnsSaid : Prop := frameReturnsRow.holds Try.pinned (OpenSpec.ofChange frameReturnsSpec)

/-- ITS FALSE NEIGHBOUR: 'it returns false'. Refute it at one input. -/
def frameReturnsWrong : ChangeSpec := { name := "frameReturns", fn := fun _ => fun
  | [d1, d2, d3] => { results := [.lit (.bool false)], args := [d1, d2, d3] }
  | _ => none }
def FrameReturnsWrongFalsely : Prop := frameReturnsRow.holds Try.pinned (OpenSpec.ofChange frameReturnsWrong)

/-- 'baseboardlaw20.FrameAgain': WHATEVER THE INPUT: true; the input reads as it did. -/
def frameAgainSpec : ChangeSpec := { name := "frameAgain", fn := fun _ => fun
  | [d] => { results := [.lit (.bool true)], args := [d] }
  | _ => none }
def frameAgainRow : OpenClaim := { program := "ytmjilnfeddaekaa", sum := "537a87d38fa25ac664174d52d37e965ffc5e52b3127b64de5ab6a3448e5529d5", func := "baseboard/baseboardlaw20.FrameAgain", spec := "frameAgain", inPlace := ["internal/bytealg.Compare"], apart := false }
def FrameAgainSaid : Prop := frameAgainRow.holds Try.pinned (OpenSpec.ofChange frameAgainSpec)

/-- ITS FALSE NEIGHBOUR: 'it returns false'. Refute it at one input. -/
def frameAgainWrong : ChangeSpec := { name := "frameAgain", fn := fun _ => fun
  | [d] => { results := [.lit (.bool false)], args := [d] }
  | _ => none }
def FrameAgainWrongFalsely : Prop := frameAgainRow.holds Try.pinned (OpenSpec.ofChange frameAgainWrong)

/- THE SECOND FORM. 'bulk': how many values and letters a reading holds, each counted each time it is reached (what is shared counts as often as it is met; a slice's spare places count too). A statement '..UptoSaid' is the law's where the arguments, and the package variables that the reading takes, are together of bulk at most 1048576: NARROWER than '..Said'. Prove '..Said' where nothing that the law and all that it calls make is longer than what came in: it says more and counts as full. Else prove '..UptoSaid'. A law counts once. -/
mutual
def uptoBulk {H : Type} : DataW H → Nat
  | .lit (.string bytes) => bytes.length + 1
  | .lit _ => 1
  | .nil => 1
  | .ptr d => uptoBulk d + 1
  | .slice elems spare => uptoBulkAll elems + uptoBulkAll spare + 1
  | .agg parts => uptoBulkAll parts + 1
  | .iface _ d => uptoBulk d + 1
  | .map entries => uptoBulkEntries entries + 1
  | .held _ => 1
def uptoBulkAll {H : Type} : List (DataW H) → Nat
  | [] => 0
  | d :: r => uptoBulk d + uptoBulkAll r
def uptoBulkEntries {H : Type} : List (Lit × DataW H) → Nat
  | [] => 0
  | x :: r => uptoBulkEntry x + uptoBulkEntries r
def uptoBulkEntry {H : Type} : Lit × DataW H → Nat
  | (.string bytes, d) => bytes.length + uptoBulk d + 1
  | (_, d) => uptoBulk d + 1
 end
def uptoSmall : (H : Type) → List (DataW H) → Bool := fun _ ds => decide (uptoBulkAll ds ≤ 1048576)
def OpenSpec.upto (s : _root_.Go.ChangeSpec) : _root_.Go.OpenSpec := { _root_.Go.OpenSpec.ofChange s with cond := some uptoSmall }

/-- 'baseboardlaw20.FrameCompares', WHERE WHAT IT READS IS OF BULK AT MOST 1048576: true; the input reads as it did. -/
def frameComparesUptoRow : OpenClaim := { program := "ytmjilnfeddaekaa", sum := "537a87d38fa25ac664174d52d37e965ffc5e52b3127b64de5ab6a3448e5529d5", func := "baseboard/baseboardlaw20.FrameCompares", spec := "frameCompares", inPlace := ["internal/bytealg.Compare"], apart := false, narrowed := true }
def FrameComparesUptoSaid : Prop := frameComparesUptoRow.holds Try.pinned (OpenSpec.upto frameComparesSpec)

/-- 'baseboardlaw20.FrameOrder', WHERE WHAT IT READS IS OF BULK AT MOST 1048576: true; the input reads as it did. -/
def frameOrderUptoRow : OpenClaim := { program := "ytmjilnfeddaekaa", sum := "537a87d38fa25ac664174d52d37e965ffc5e52b3127b64de5ab6a3448e5529d5", func := "baseboard/baseboardlaw20.FrameOrder", spec := "frameOrder", inPlace := ["internal/bytealg.Compare"], apart := false, narrowed := true }
def FrameOrderUptoSaid : Prop := frameOrderUptoRow.holds Try.pinned (OpenSpec.upto frameOrderSpec)

/-- 'baseboardlaw20.FrameBytes', WHERE WHAT IT READS IS OF BULK AT MOST 1048576: true; the input reads as it did. -/
def frameBytesUptoRow : OpenClaim := { program := "ytmjilnfeddaekaa", sum := "537a87d38fa25ac664174d52d37e965ffc5e52b3127b64de5ab6a3448e5529d5", func := "baseboard/baseboardlaw20.FrameBytes", spec := "frameBytes", inPlace := ["internal/bytealg.Compare"], apart := false, narrowed := true }
def FrameBytesUptoSaid : Prop := frameBytesUptoRow.holds Try.pinned (OpenSpec.upto frameBytesSpec)

/-- 'baseboardlaw20.FrameReturns', WHERE WHAT IT READS IS OF BULK AT MOST 1048576: true; the input reads as it did. -/
def frameReturnsUptoRow : OpenClaim := { program := "ytmjilnfeddaekaa", sum := "537a87d38fa25ac664174d52d37e965ffc5e52b3127b64de5ab6a3448e5529d5", func := "baseboard/baseboardlaw20.FrameReturns", spec := "frameReturns", inPlace := ["internal/bytealg.Compare"], apart := false, narrowed := true }
def FrameReturnsUptoSaid : Prop := frameReturnsUptoRow.holds Try.pinned (OpenSpec.upto frameReturnsSpec)

/-- 'baseboardlaw20.FrameAgain', WHERE WHAT IT READS IS OF BULK AT MOST 1048576: true; the input reads as it did. -/
def frameAgainUptoRow : OpenClaim := { program := "ytmjilnfeddaekaa", sum := "537a87d38fa25ac664174d52d37e965ffc5e52b3127b64de5ab6a3448e5529d5", func := "baseboard/baseboardlaw20.FrameAgain", spec := "frameAgain", inPlace := ["internal/bytealg.Compare"], apart := false, narrowed := true }
def FrameAgainUptoSaid : Prop := frameAgainUptoRow.holds Try.pinned (OpenSpec.upto frameAgainSpec)

end Rows
end Go.Proofs.Ytmjilnfeddaekaa
