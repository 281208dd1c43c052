/-
  No cell of these rows narrows 'for every input' (looked for: loops, veiled, ifaces, maps, wideKeys, modest, calm, conditions, laid).
  DERIVED. THE GIVEN ROWS OF THIS SEAT. 5 by the template 'for every input the law returns true; each argument reads behind the call as it read before'; 0 by the template 'total and deterministic' (their statements: YtgfioeiebfponaaTotals.lean).
  GIVEN WITH THE SEED: the statements are not yours to turn. If you find one false, say at which input.
  Laid BY PROGRAM, IN A SANDBOX (cutbox-rows.mjs): the forced cells as the released guide's own fill.sh prints them over the translation 108de4e640e1fc63… (all of the seat's roots in one cut). By AI agents, Wed Nov 11 2026. No macro, syntax, notation, axiom, sorry.
-/
import Derived.Test.YtgfioeiebfponaaChecked
import GoSem.Claim
import GoSem.ClaimJoined
import GoSem.ClaimMapViews
import Derived.JoinedTies
import Derived.KernelRfl
namespace Go.Proofs.Ytgfioeiebfponaa
/- THE CELL 'sum', in the pinned program and in every row, IS THE sha256 OF THE DUMP (.gsa) THAT YtgfioeiebfponaaProg.lean LOADS. Nothing in Lean hashes anything: it is a label: what it is worth is what the hold of that sum in a sandbox is worth. -/
noncomputable def Try.pinned : Pinned := { name := "ytgfioeiebfponaa", sum := "108de4e640e1fc6356b9be7089297fe1df76a9aa8f150378f4257cfaec442973", checked := Try.checked }
namespace Rows
def none {H : Type} : Left H := { results := [], args := [] }

/-- 'baseboardlaw30.TransferConflicts': WHATEVER THE INPUT: true; the input reads as it did. -/
def transferConflictsSpec : ChangeSpec := { name := "transferConflicts", fn := fun _ => fun
  | [d1, d2, d3] => { results := [.lit (.bool true)], args := [d1, d2, d3] }
  | _ => none }
def transferConflictsRow : OpenClaim := { program := "ytgfioeiebfponaa", sum := "108de4e640e1fc6356b9be7089297fe1df76a9aa8f150378f4257cfaec442973", func := "baseboard/baseboardlaw30.TransferConflicts", spec := "transferConflicts", unfollowed := true, recurses := true, apart := false }
def TransferConflictsSaid : Prop := transferConflictsRow.holds Try.pinned (OpenSpec.ofChange transferConflictsSpec)

/-- ITS FALSE NEIGHBOUR: 'it returns false'. Refute it at one input. -/
def transferConflictsWrong : ChangeSpec := { name := "transferConflicts", fn := fun _ => fun
  | [d1, d2, d3] => { results := [.lit (.bool false)], args := [d1, d2, d3] }
  | _ => none }
def TransferConflictsWrongFalsely : Prop := transferConflictsRow.holds Try.pinned (OpenSpec.ofChange transferConflictsWrong)

/-- 'baseboardlaw30.TransferSizes': WHATEVER THE INPUT: true; the input reads as it did. -/
def transferSizesSpec : ChangeSpec := { name := "transferSizes", fn := fun _ => fun
  | [d1, d2] => { results := [.lit (.bool true)], args := [d1, d2] }
  | _ => none }
def transferSizesRow : OpenClaim := { program := "ytgfioeiebfponaa", sum := "108de4e640e1fc6356b9be7089297fe1df76a9aa8f150378f4257cfaec442973", func := "baseboard/baseboardlaw30.TransferSizes", spec := "transferSizes", unfollowed := true, recurses := true, apart := false }
def TransferSizesSaid : Prop := transferSizesRow.holds Try.pinned (OpenSpec.ofChange transferSizesSpec)

/-- ITS FALSE NEIGHBOUR: 'it returns false'. Refute it at one input. -/
def transferSizesWrong : ChangeSpec := { name := "transferSizes", fn := fun _ => fun
  | [d1, d2] => { results := [.lit (.bool false)], args := [d1, d2] }
  | _ => none }
def TransferSizesWrongFalsely : Prop := transferSizesRow.holds Try.pinned (OpenSpec.ofChange transferSizesWrong)

/-- 'baseboardlaw30.TransferZero': WHATEVER THE INPUT: true; the input reads as it did. -/
def transferZeroSpec : ChangeSpec := { name := "transferZero", fn := fun _ => fun
  | [d1, d2, d3] => { results := [.lit (.bool true)], args := [d1, d2, d3] }
  | _ => none }
def transferZeroRow : OpenClaim := { program := "ytgfioeiebfponaa", sum := "108de4e640e1fc6356b9be7089297fe1df76a9aa8f150378f4257cfaec442973", func := "baseboard/baseboardlaw30.TransferZero", spec := "transferZero", unfollowed := true, recurses := true, apart := false }
def TransferZeroSaid : Prop := transferZeroRow.holds Try.pinned (OpenSpec.ofChange transferZeroSpec)

/-- ITS FALSE NEIGHBOUR: 'it returns false'. Refute it at one input. -/
def transferZeroWrong : ChangeSpec := { name := "transferZero", fn := fun _ => fun
  | [d1, d2, d3] => { results := [.lit (.bool false)], args := [d1, d2, d3] }
  | _ => none }
def TransferZeroWrongFalsely : Prop := transferZeroRow.holds Try.pinned (OpenSpec.ofChange transferZeroWrong)

/-- 'baseboardlaw30.TransferAnswers': WHATEVER THE INPUT: true; the input reads as it did. -/
def transferAnswersSpec : ChangeSpec := { name := "transferAnswers", fn := fun _ => fun
  | [d1, d2, d3, d4, d5, d6, d7] => { results := [.lit (.bool true)], args := [d1, d2, d3, d4, d5, d6, d7] }
  | _ => none }
def transferAnswersRow : OpenClaim := { program := "ytgfioeiebfponaa", sum := "108de4e640e1fc6356b9be7089297fe1df76a9aa8f150378f4257cfaec442973", func := "baseboard/baseboardlaw30.TransferAnswers", spec := "transferAnswers", unfollowed := true, recurses := true, apart := false }
def TransferAnswersSaid : Prop := transferAnswersRow.holds Try.pinned (OpenSpec.ofChange transferAnswersSpec)

/-- ITS FALSE NEIGHBOUR: 'it returns false'. Refute it at one input. -/
def transferAnswersWrong : ChangeSpec := { name := "transferAnswers", fn := fun _ => fun
  | [d1, d2, d3, d4, d5, d6, d7] => { results := [.lit (.bool false)], args := [d1, d2, d3, d4, d5, d6, d7] }
  | _ => none }
def TransferAnswersWrongFalsely : Prop := transferAnswersRow.holds Try.pinned (OpenSpec.ofChange transferAnswersWrong)

/-- 'baseboardlaw30.TransferOrders': WHATEVER THE INPUT: true; the input reads as it did. -/
def transferOrdersSpec : ChangeSpec := { name := "transferOrders", fn := fun _ => fun
  | [d1, d2, d3] => { results := [.lit (.bool true)], args := [d1, d2, d3] }
  | _ => none }
def transferOrdersRow : OpenClaim := { program := "ytgfioeiebfponaa", sum := "108de4e640e1fc6356b9be7089297fe1df76a9aa8f150378f4257cfaec442973", func := "baseboard/baseboardlaw30.TransferOrders", spec := "transferOrders", unfollowed := true, recurses := true, apart := false }
def TransferOrdersSaid : Prop := transferOrdersRow.holds Try.pinned (OpenSpec.ofChange transferOrdersSpec)

/-- ITS FALSE NEIGHBOUR: 'it returns false'. Refute it at one input. -/
def transferOrdersWrong : ChangeSpec := { name := "transferOrders", fn := fun _ => fun
  | [d1, d2, d3] => { results := [.lit (.bool false)], args := [d1, d2, d3] }
  | _ => none }
def TransferOrdersWrongFalsely : Prop := transferOrdersRow.holds Try.pinned (OpenSpec.ofChange transferOrdersWrong)

/- THE SECOND FORM. 'bulk': how many values and letters a reading holds, each counted each time it is reached (what is shared counts as often as it is met; a slice's spare places count too). A statement '..UptoSaid' is the law's where the arguments, and the package variables that the reading takes, are together of bulk at most 1048576: NARROWER than '..Said'. Prove '..Said' where nothing that the law and all that it calls make is longer than what came in: it says more and counts as full. Else prove '..UptoSaid'. A law counts once. -/
mutual
def uptoBulk {H : Type} : DataW H → Nat
  | .lit (.string bytes) => bytes.length + 1
  | .lit _ => 1
  | .nil => 1
  | .ptr d => uptoBulk d + 1
  | .slice elems spare => uptoBulkAll elems + uptoBulkAll spare + 1
  | .agg parts => uptoBulkAll parts + 1
  | .iface _ d => uptoBulk d + 1
  | .map entries => uptoBulkEntries entries + 1
  | .held _ => 1
def uptoBulkAll {H : Type} : List (DataW H) → Nat
  | [] => 0
  | d :: r => uptoBulk d + uptoBulkAll r
def uptoBulkEntries {H : Type} : List (Lit × DataW H) → Nat
  | [] => 0
  | x :: r => uptoBulkEntry x + uptoBulkEntries r
def uptoBulkEntry {H : Type} : Lit × DataW H → Nat
  | (.string bytes, d) => bytes.length + uptoBulk d + 1
  | (_, d) => uptoBulk d + 1
 end
def uptoSmall : (H : Type) → List (DataW H) → Bool := fun _ ds => decide (uptoBulkAll ds ≤ 1048576)
def OpenSpec.upto (s : _root_.Go.ChangeSpec) : _root_.Go.OpenSpec := { _root_.Go.OpenSpec.ofChange s with cond := some uptoSmall }

/-- 'baseboardlaw30.TransferConflicts', WHERE WHAT IT READS IS OF BULK AT MOST 1048576: true; the input reads as it did. -/
def transferConflictsUptoRow : OpenClaim := { program := "ytgfioeiebfponaa", sum := "108de4e640e1fc6356b9be7089297fe1df76a9aa8f150378f4257cfaec442973", func := "baseboard/baseboardlaw30.TransferConflicts", spec := "transferConflicts", unfollowed := true, recurses := true, apart := false, narrowed := true }
def TransferConflictsUptoSaid : Prop := transferConflictsUptoRow.holds Try.pinned (OpenSpec.upto transferConflictsSpec)

/-- 'baseboardlaw30.TransferSizes', WHERE WHAT IT READS IS OF BULK AT MOST 1048576: true; the input reads as it did. -/
def transferSizesUptoRow : OpenClaim := { program := "ytgfioeiebfponaa", sum := "108de4e640e1fc6356b9be7089297fe1df76a9aa8f150378f4257cfaec442973", func := "baseboard/baseboardlaw30.TransferSizes", spec := "transferSizes", unfollowed := true, recurses := true, apart := false, narrowed := true }
def TransferSizesUptoSaid : Prop := transferSizesUptoRow.holds Try.pinned (OpenSpec.upto transferSizesSpec)

/-- 'baseboardlaw30.TransferZero', WHERE WHAT IT READS IS OF BULK AT MOST 1048576: true; the input reads as it did. -/
def transferZeroUptoRow : OpenClaim := { program := "ytgfioeiebfponaa", sum := "108de4e640e1fc6356b9be7089297fe1df76a9aa8f150378f4257cfaec442973", func := "baseboard/baseboardlaw30.TransferZero", spec := "transferZero", unfollowed := true, recurses := true, apart := false, narrowed := true }
def TransferZeroUptoSaid : Prop := transferZeroUptoRow.holds Try.pinned (OpenSpec.upto transferZeroSpec)

/-- 'baseboardlaw30.TransferAnswers', WHERE WHAT IT READS IS OF BULK AT MOST 1048576: true; the input reads as it did. -/
def transferAnswersUptoRow : OpenClaim := { program := "ytgfioeiebfponaa", sum := "108de4e640e1fc6356b9be7089297fe1df76a9aa8f150378f4257cfaec442973", func := "baseboard/baseboardlaw30.TransferAnswers", spec := "transferAnswers", unfollowed := true, recurses := true, apart := false, narrowed := true }
def TransferAnswersUptoSaid : Prop := transferAnswersUptoRow.holds Try.pinned (OpenSpec.upto transferAnswersSpec)

/-- 'baseboardlaw30.TransferOrders', WHERE WHAT IT READS IS OF BULK AT MOST 1048576: true; the input reads as it did. -/
def transferOrdersUptoRow : OpenClaim := { program := "ytgfioeiebfponaa", sum := "108de4e640e1fc6356b9be7089297fe1df76a9aa8f150378f4257cfaec442973", func := "baseboard/baseboardlaw30.TransferOrders", spec := "transferOrders", unfollowed := true, recurses := true, apart := false, narrowed := true }
def TransferOrdersUptoSaid : Prop := transferOrdersUptoRow.holds Try.pinned (OpenSpec.upto transferOrdersSpec)

end Rows
end Go.Proofs.Ytgfioeiebfponaa
