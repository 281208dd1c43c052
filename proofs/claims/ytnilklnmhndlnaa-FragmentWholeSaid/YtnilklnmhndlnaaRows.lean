/-
  No cell of these rows narrows 'for every input' (looked for: loops, veiled, ifaces, maps, wideKeys, modest, calm, conditions, laid).
  DERIVED. THE GIVEN ROWS OF THIS SEAT. 8 by the template 'for every input the law returns true; each argument reads behind the call as it read before'; 0 by the template 'total and deterministic' (their statements: YtnilklnmhndlnaaTotals.lean).
  GIVEN WITH THE SEED: the statements are not yours to turn. If you find one false, say at which input.
  Laid BY PROGRAM, IN A SANDBOX (cutbox-rows.mjs): the forced cells as the released guide's own fill.sh prints them over the translation 5ee7ec6942e22843… (all of the seat's roots in one cut). By AI agents, Wed Nov 11 2026. No macro, syntax, notation, axiom, sorry.
-/
import Derived.Test.YtnilklnmhndlnaaChecked
import GoSem.Claim
import GoSem.ClaimJoined
import GoSem.ClaimMapViews
import Derived.JoinedTies
import Derived.KernelRfl
namespace Go.Proofs.Ytnilklnmhndlnaa
/- THE CELL 'sum', in the pinned program and in every row, IS THE sha256 OF THE DUMP (.gsa) THAT YtnilklnmhndlnaaProg.lean LOADS. Nothing in Lean hashes anything: it is a label: what it is worth is what the hold of that sum in a sandbox is worth. -/
noncomputable def Try.pinned : Pinned := { name := "ytnilklnmhndlnaa", sum := "5ee7ec6942e22843fca8d4aabf88734a93893463b01b5d1dabc1720a70b4e794", checked := Try.checked }
namespace Rows
def none {H : Type} : Left H := { results := [], args := [] }

/-- 'baseboardlaw22.FragmentSplits': WHATEVER THE INPUT: true; the input reads as it did. -/
def fragmentSplitsSpec : ChangeSpec := { name := "fragmentSplits", fn := fun _ => fun
  | [d1, d2, d3, d4, d5, d6] => { results := [.lit (.bool true)], args := [d1, d2, d3, d4, d5, d6] }
  | _ => none }
def fragmentSplitsRow : OpenClaim := { program := "ytnilklnmhndlnaa", sum := "5ee7ec6942e22843fca8d4aabf88734a93893463b01b5d1dabc1720a70b4e794", func := "baseboard/baseboardlaw22.FragmentSplits", spec := "fragmentSplits", unfollowed := true, recurses := true, apart := false }
def FragmentSplitsSaid : Prop := fragmentSplitsRow.holds Try.pinned (OpenSpec.ofChange fragmentSplitsSpec)

/-- ITS FALSE NEIGHBOUR: 'it returns false'. Refute it at one input. -/
def fragmentSplitsWrong : ChangeSpec := { name := "fragmentSplits", fn := fun _ => fun
  | [d1, d2, d3, d4, d5, d6] => { results := [.lit (.bool false)], args := [d1, d2, d3, d4, d5, d6] }
  | _ => none }
def FragmentSplitsWrongFalsely : Prop := fragmentSplitsRow.holds Try.pinned (OpenSpec.ofChange fragmentSplitsWrong)

/-- 'baseboardlaw22.FragmentPlays': WHATEVER THE INPUT: true; the input reads as it did. -/
def fragmentPlaysSpec : ChangeSpec := { name := "fragmentPlays", fn := fun _ => fun
  | [d1, d2, d3] => { results := [.lit (.bool true)], args := [d1, d2, d3] }
  | _ => none }
def fragmentPlaysRow : OpenClaim := { program := "ytnilklnmhndlnaa", sum := "5ee7ec6942e22843fca8d4aabf88734a93893463b01b5d1dabc1720a70b4e794", func := "baseboard/baseboardlaw22.FragmentPlays", spec := "fragmentPlays", unfollowed := true, recurses := true, apart := false }
def FragmentPlaysSaid : Prop := fragmentPlaysRow.holds Try.pinned (OpenSpec.ofChange fragmentPlaysSpec)

/-- ITS FALSE NEIGHBOUR: 'it returns false'. Refute it at one input. -/
def fragmentPlaysWrong : ChangeSpec := { name := "fragmentPlays", fn := fun _ => fun
  | [d1, d2, d3] => { results := [.lit (.bool false)], args := [d1, d2, d3] }
  | _ => none }
def FragmentPlaysWrongFalsely : Prop := fragmentPlaysRow.holds Try.pinned (OpenSpec.ofChange fragmentPlaysWrong)

/-- 'baseboardlaw22.FragmentLosses': WHATEVER THE INPUT: true; the input reads as it did. -/
def fragmentLossesSpec : ChangeSpec := { name := "fragmentLosses", fn := fun _ => fun
  | [d1, d2] => { results := [.lit (.bool true)], args := [d1, d2] }
  | _ => none }
def fragmentLossesRow : OpenClaim := { program := "ytnilklnmhndlnaa", sum := "5ee7ec6942e22843fca8d4aabf88734a93893463b01b5d1dabc1720a70b4e794", func := "baseboard/baseboardlaw22.FragmentLosses", spec := "fragmentLosses", unfollowed := true, recurses := true, apart := false }
def FragmentLossesSaid : Prop := fragmentLossesRow.holds Try.pinned (OpenSpec.ofChange fragmentLossesSpec)

/-- ITS FALSE NEIGHBOUR: 'it returns false'. Refute it at one input. -/
def fragmentLossesWrong : ChangeSpec := { name := "fragmentLosses", fn := fun _ => fun
  | [d1, d2] => { results := [.lit (.bool false)], args := [d1, d2] }
  | _ => none }
def FragmentLossesWrongFalsely : Prop := fragmentLossesRow.holds Try.pinned (OpenSpec.ofChange fragmentLossesWrong)

/-- 'baseboardlaw22.FragmentLimits': WHATEVER THE INPUT: true; the input reads as it did. -/
def fragmentLimitsSpec : ChangeSpec := { name := "fragmentLimits", fn := fun _ => fun
  | [d1, d2, d3] => { results := [.lit (.bool true)], args := [d1, d2, d3] }
  | _ => none }
def fragmentLimitsRow : OpenClaim := { program := "ytnilklnmhndlnaa", sum := "5ee7ec6942e22843fca8d4aabf88734a93893463b01b5d1dabc1720a70b4e794", func := "baseboard/baseboardlaw22.FragmentLimits", spec := "fragmentLimits", unfollowed := true, recurses := true, apart := false }
def FragmentLimitsSaid : Prop := fragmentLimitsRow.holds Try.pinned (OpenSpec.ofChange fragmentLimitsSpec)

/-- ITS FALSE NEIGHBOUR: 'it returns false'. Refute it at one input. -/
def fragmentLimitsWrong : ChangeSpec := { name := "fragmentLimits", fn := fun _ => fun
  | [d1, d2, d3] => { results := [.lit (.bool false)], args := [d1, d2, d3] }
  | _ => none }
def FragmentLimitsWrongFalsely : Prop := fragmentLimitsRow.holds Try.pinned (OpenSpec.ofChange fragmentLimitsWrong)

/-- 'baseboardlaw22.FragmentPieces': WHATEVER THE INPUT: true; the input reads as it did. -/
def fragmentPiecesSpec : ChangeSpec := { name := "fragmentPieces", fn := fun _ => fun
  | [d1, d2, d3, d4] => { results := [.lit (.bool true)], args := [d1, d2, d3, d4] }
  | _ => none }
def fragmentPiecesRow : OpenClaim := { program := "ytnilklnmhndlnaa", sum := "5ee7ec6942e22843fca8d4aabf88734a93893463b01b5d1dabc1720a70b4e794", func := "baseboard/baseboardlaw22.FragmentPieces", spec := "fragmentPieces", unfollowed := true, recurses := true, apart := false }
def FragmentPiecesSaid : Prop := fragmentPiecesRow.holds Try.pinned (OpenSpec.ofChange fragmentPiecesSpec)

/-- ITS FALSE NEIGHBOUR: 'it returns false'. Refute it at one input. -/
def fragmentPiecesWrong : ChangeSpec := { name := "fragmentPieces", fn := fun _ => fun
  | [d1, d2, d3, d4] => { results := [.lit (.bool false)], args := [d1, d2, d3, d4] }
  | _ => none }
def FragmentPiecesWrongFalsely : Prop := fragmentPiecesRow.holds Try.pinned (OpenSpec.ofChange fragmentPiecesWrong)

/-- 'baseboardlaw22.FragmentBytes': WHATEVER THE INPUT: true; the input reads as it did. -/
def fragmentBytesSpec : ChangeSpec := { name := "fragmentBytes", fn := fun _ => fun
  | [d1, d2, d3] => { results := [.lit (.bool true)], args := [d1, d2, d3] }
  | _ => none }
def fragmentBytesRow : OpenClaim := { program := "ytnilklnmhndlnaa", sum := "5ee7ec6942e22843fca8d4aabf88734a93893463b01b5d1dabc1720a70b4e794", func := "baseboard/baseboardlaw22.FragmentBytes", spec := "fragmentBytes", unfollowed := true, recurses := true, apart := false }
def FragmentBytesSaid : Prop := fragmentBytesRow.holds Try.pinned (OpenSpec.ofChange fragmentBytesSpec)

/-- ITS FALSE NEIGHBOUR: 'it returns false'. Refute it at one input. -/
def fragmentBytesWrong : ChangeSpec := { name := "fragmentBytes", fn := fun _ => fun
  | [d1, d2, d3] => { results := [.lit (.bool false)], args := [d1, d2, d3] }
  | _ => none }
def FragmentBytesWrongFalsely : Prop := fragmentBytesRow.holds Try.pinned (OpenSpec.ofChange fragmentBytesWrong)

/-- 'baseboardlaw22.FragmentReturns': WHATEVER THE INPUT: true; the input reads as it did. -/
def fragmentReturnsSpec : ChangeSpec := { name := "fragmentReturns", fn := fun _ => fun
  | [d1, d2] => { results := [.lit (.bool true)], args := [d1, d2] }
  | _ => none }
def fragmentReturnsRow : OpenClaim := { program := "ytnilklnmhndlnaa", sum := "5ee7ec6942e22843fca8d4aabf88734a93893463b01b5d1dabc1720a70b4e794", func := "baseboard/baseboardlaw22.FragmentReturns", spec := "fragmentReturns", unfollowed := true, recurses := true, apart := false }
def FragmentReturnsSaid : Prop := fragmentReturnsRow.holds Try.pinned (OpenSpec.ofChange fragmentReturnsSpec)

/-- ITS FALSE NEIGHBOUR: 'it returns false'. Refute it at one input. -/
def fragmentReturnsWrong : ChangeSpec := { name := "fragmentReturns", fn := fun _ => fun
  | [d1, d2] => { results := [.lit (.bool false)], args := [d1, d2] }
  | _ => none }
def FragmentReturnsWrongFalsely : Prop := fragmentReturnsRow.holds Try.pinned (OpenSpec.ofChange fragmentReturnsWrong)

/-- 'baseboardlaw22.FragmentWhole': WHATEVER THE INPUT: true; the input reads as it did. -/
def fragmentWholeSpec : ChangeSpec := { name := "fragmentWhole", fn := fun _ => fun
  | [d1, d2] => { results := [.lit (.bool true)], args := [d1, d2] }
  | _ => none }
def fragmentWholeRow : OpenClaim := { program := "ytnilklnmhndlnaa", sum := "5ee7ec6942e22843fca8d4aabf88734a93893463b01b5d1dabc1720a70b4e794", func := "baseboard/baseboardlaw22.FragmentWhole", spec := "fragmentWhole", unfollowed := true, recurses := true, apart := false }
def FragmentWholeSaid : Prop := fragmentWholeRow.holds Try.pinned (OpenSpec.ofChange fragmentWholeSpec)

/-- ITS FALSE NEIGHBOUR: 'it returns false'. Refute it at one input. -/
def fragmentWholeWrong : ChangeSpec := { name := "fragmentWhole", fn := fun _ => fun
  | [d1, d2] => { results := [.lit (.bool false)], args := [d1, d2] }
  | _ => none }
def FragmentWholeWrongFalsely : Prop := fragmentWholeRow.holds Try.pinned (OpenSpec.ofChange fragmentWholeWrong)

/- THE SECOND FORM. 'bulk': how many values and letters a reading holds, each counted each time it is reached (what is shared counts as often as it is met; a slice's spare places count too). A statement '..UptoSaid' is the law's where the arguments, and the package variables that the reading takes, are together of bulk at most 1048576: NARROWER than '..Said'. Prove '..Said' where nothing that the law and all that it calls make is longer than what came in: it says more and counts as full. Else prove '..UptoSaid'. A law counts once. -/
mutual
def uptoBulk {H : Type} : DataW H → Nat
  | .lit (.string bytes) => bytes.length + 1
  | .lit _ => 1
  | .nil => 1
  | .ptr d => uptoBulk d + 1
  | .slice elems spare => uptoBulkAll elems + uptoBulkAll spare + 1
  | .agg parts => uptoBulkAll parts + 1
  | .iface _ d => uptoBulk d + 1
  | .map entries => uptoBulkEntries entries + 1
  | .held _ => 1
def uptoBulkAll {H : Type} : List (DataW H) → Nat
  | [] => 0
  | d :: r => uptoBulk d + uptoBulkAll r
def uptoBulkEntries {H : Type} : List (Lit × DataW H) → Nat
  | [] => 0
  | x :: r => uptoBulkEntry x + uptoBulkEntries r
def uptoBulkEntry {H : Type} : Lit × DataW H → Nat
  | (.string bytes, d) => bytes.length + uptoBulk d + 1
  | (_, d) => uptoBulk d + 1
 end
def uptoSmall : (H : Type) → List (DataW H) → Bool := fun _ ds => decide (uptoBulkAll ds ≤ 1048576)
def OpenSpec.upto (s : _root_.Go.ChangeSpec) : _root_.Go.OpenSpec := { _root_.Go.OpenSpec.ofChange s with cond := some uptoSmall }

/-- 'baseboardlaw22.FragmentSplits', WHERE WHAT IT READS IS OF BULK AT MOST 1048576: true; the input reads as it did. -/
def fragmentSplitsUptoRow : OpenClaim := { program := "ytnilklnmhndlnaa", sum := "5ee7ec6942e22843fca8d4aabf88734a93893463b01b5d1dabc1720a70b4e794", func := "baseboard/baseboardlaw22.FragmentSplits", spec := "fragmentSplits", unfollowed := true, recurses := true, apart := false, narrowed := true }
def FragmentSplitsUptoSaid : Prop := fragmentSplitsUptoRow.holds Try.pinned (OpenSpec.upto fragmentSplitsSpec)

/-- 'baseboardlaw22.FragmentPlays', WHERE WHAT IT READS IS OF BULK AT MOST 1048576: true; the input reads as it did. -/
def fragmentPlaysUptoRow : OpenClaim := { program := "ytnilklnmhndlnaa", sum := "5ee7ec6942e22843fca8d4aabf88734a93893463b01b5d1dabc1720a70b4e794", func := "baseboard/baseboardlaw22.FragmentPlays", spec := "fragmentPlays", unfollowed := true, recurses := true, apart := false, narrowed := true }
def FragmentPlaysUptoSaid : Prop := fragmentPlaysUptoRow.holds Try.pinned (OpenSpec.upto fragmentPlaysSpec)

/-- 'baseboardlaw22.FragmentLosses', WHERE WHAT IT READS IS OF BULK AT MOST 1048576: true; the input reads as it did. -/
def fragmentLossesUptoRow : OpenClaim := { program := "ytnilklnmhndlnaa", sum := "5ee7ec6942e22843fca8d4aabf88734a93893463b01b5d1dabc1720a70b4e794", func := "baseboard/baseboardlaw22.FragmentLosses", spec := "fragmentLosses", unfollowed := true, recurses := true, apart := false, narrowed := true }
def FragmentLossesUptoSaid : Prop := fragmentLossesUptoRow.holds Try.pinned (OpenSpec.upto fragmentLossesSpec)

/-- 'baseboardlaw22.FragmentLimits', WHERE WHAT IT READS IS OF BULK AT MOST 1048576: true; the input reads as it did. -/
def fragmentLimitsUptoRow : OpenClaim := { program := "ytnilklnmhndlnaa", sum := "5ee7ec6942e22843fca8d4aabf88734a93893463b01b5d1dabc1720a70b4e794", func := "baseboard/baseboardlaw22.FragmentLimits", spec := "fragmentLimits", unfollowed := true, recurses := true, apart := false, narrowed := true }
def FragmentLimitsUptoSaid : Prop := fragmentLimitsUptoRow.holds Try.pinned (OpenSpec.upto fragmentLimitsSpec)

/-- 'baseboardlaw22.FragmentPieces', WHERE WHAT IT READS IS OF BULK AT MOST 1048576: true; the input reads as it did. -/
def fragmentPiecesUptoRow : OpenClaim := { program := "ytnilklnmhndlnaa", sum := "5ee7ec6942e22843fca8d4aabf88734a93893463b01b5d1dabc1720a70b4e794", func := "baseboard/baseboardlaw22.FragmentPieces", spec := "fragmentPieces", unfollowed := true, recurses := true, apart := false, narrowed := true }
def FragmentPiecesUptoSaid : Prop := fragmentPiecesUptoRow.holds Try.pinned (OpenSpec.upto fragmentPiecesSpec)

/-- 'baseboardlaw22.FragmentBytes', WHERE WHAT IT READS IS OF BULK AT MOST 1048576: true; the input reads as it did. -/
def fragmentBytesUptoRow : OpenClaim := { program := "ytnilklnmhndlnaa", sum := "5ee7ec6942e22843fca8d4aabf88734a93893463b01b5d1dabc1720a70b4e794", func := "baseboard/baseboardlaw22.FragmentBytes", spec := "fragmentBytes", unfollowed := true, recurses := true, apart := false, narrowed := true }
def FragmentBytesUptoSaid : Prop := fragmentBytesUptoRow.holds Try.pinned (OpenSpec.upto fragmentBytesSpec)

/-- 'baseboardlaw22.FragmentReturns', WHERE WHAT IT READS IS OF BULK AT MOST 1048576: true; the input reads as it did. -/
def fragmentReturnsUptoRow : OpenClaim := { program := "ytnilklnmhndlnaa", sum := "5ee7ec6942e22843fca8d4aabf88734a93893463b01b5d1dabc1720a70b4e794", func := "baseboard/baseboardlaw22.FragmentReturns", spec := "fragmentReturns", unfollowed := true, recurses := true, apart := false, narrowed := true }
def FragmentReturnsUptoSaid : Prop := fragmentReturnsUptoRow.holds Try.pinned (OpenSpec.upto fragmentReturnsSpec)

/-- 'baseboardlaw22.FragmentWhole', WHERE WHAT IT READS IS OF BULK AT MOST 1048576: true; the input reads as it did. -/
def fragmentWholeUptoRow : OpenClaim := { program := "ytnilklnmhndlnaa", sum := "5ee7ec6942e22843fca8d4aabf88734a93893463b01b5d1dabc1720a70b4e794", func := "baseboard/baseboardlaw22.FragmentWhole", spec := "fragmentWhole", unfollowed := true, recurses := true, apart := false, narrowed := true }
def FragmentWholeUptoSaid : Prop := fragmentWholeUptoRow.holds Try.pinned (OpenSpec.upto fragmentWholeSpec)

end Rows
end Go.Proofs.Ytnilklnmhndlnaa
