/-
  No cell of these rows narrows 'for every input' (looked for: loops, veiled, ifaces, maps, wideKeys, modest, calm, conditions, laid).
  DERIVED. THE GIVEN ROWS OF THIS SEAT. 5 by the template 'for every input the law returns true; each argument reads behind the call as it read before'; 0 by the template 'total and deterministic' (their statements: YtlfbpnoempdiiaaTotals.lean).
  GIVEN WITH THE SEED: the statements are not yours to turn. If you find one false, say at which input.
  Laid BY PROGRAM, IN A SANDBOX (cutbox-rows.mjs): the forced cells as the released guide's own fill.sh prints them over the translation 008944a8626b0b0c… (all of the seat's roots in one cut). By AI agents, Wed Nov 11 2026. No macro, syntax, notation, axiom, sorry.
-/
import Derived.Test.YtlfbpnoempdiiaaChecked
import GoSem.Claim
import GoSem.ClaimJoined
import GoSem.ClaimMapViews
import Derived.JoinedTies
import Derived.KernelRfl
namespace Go.Proofs.Ytlfbpnoempdiiaa
/- THE CELL 'sum', in the pinned program and in every row, IS THE sha256 OF THE DUMP (.gsa) THAT YtlfbpnoempdiiaaProg.lean LOADS. Nothing in Lean hashes anything: it is a label: what it is worth is what the hold of that sum in a sandbox is worth. -/
noncomputable def Try.pinned : Pinned := { name := "ytlfbpnoempdiiaa", sum := "008944a8626b0b0c8bd046fed49b819228bb7de684951bc82085421e3eeac5e8", checked := Try.checked }
namespace Rows
def none {H : Type} : Left H := { results := [], args := [] }

/-- 'baseboardlaw25.ResponderOnce': WHATEVER THE INPUT: true; the input reads as it did. -/
def responderOnceSpec : ChangeSpec := { name := "responderOnce", fn := fun _ => fun
  | [d] => { results := [.lit (.bool true)], args := [d] }
  | _ => none }
def responderOnceRow : OpenClaim := { program := "ytlfbpnoempdiiaa", sum := "008944a8626b0b0c8bd046fed49b819228bb7de684951bc82085421e3eeac5e8", func := "baseboard/baseboardlaw25.ResponderOnce", spec := "responderOnce", unfollowed := true, recurses := true, apart := false }
def ResponderOnceSaid : Prop := responderOnceRow.holds Try.pinned (OpenSpec.ofChange responderOnceSpec)

/-- ITS FALSE NEIGHBOUR: 'it returns false'. Refute it at one input. -/
def responderOnceWrong : ChangeSpec := { name := "responderOnce", fn := fun _ => fun
  | [d] => { results := [.lit (.bool false)], args := [d] }
  | _ => none }
def ResponderOnceWrongFalsely : Prop := responderOnceRow.holds Try.pinned (OpenSpec.ofChange responderOnceWrong)

/-- 'baseboardlaw25.ResponderForgets': WHATEVER THE INPUT: true; the input reads as it did. -/
def responderForgetsSpec : ChangeSpec := { name := "responderForgets", fn := fun _ => fun
  | [d1, d2, d3, d4] => { results := [.lit (.bool true)], args := [d1, d2, d3, d4] }
  | _ => none }
def responderForgetsRow : OpenClaim := { program := "ytlfbpnoempdiiaa", sum := "008944a8626b0b0c8bd046fed49b819228bb7de684951bc82085421e3eeac5e8", func := "baseboard/baseboardlaw25.ResponderForgets", spec := "responderForgets", unfollowed := true, recurses := true, apart := false }
def ResponderForgetsSaid : Prop := responderForgetsRow.holds Try.pinned (OpenSpec.ofChange responderForgetsSpec)

/-- ITS FALSE NEIGHBOUR: 'it returns false'. Refute it at one input. -/
def responderForgetsWrong : ChangeSpec := { name := "responderForgets", fn := fun _ => fun
  | [d1, d2, d3, d4] => { results := [.lit (.bool false)], args := [d1, d2, d3, d4] }
  | _ => none }
def ResponderForgetsWrongFalsely : Prop := responderForgetsRow.holds Try.pinned (OpenSpec.ofChange responderForgetsWrong)

/-- 'baseboardlaw25.ResponderRefuses': WHATEVER THE INPUT: true; the input reads as it did. -/
def responderRefusesSpec : ChangeSpec := { name := "responderRefuses", fn := fun _ => fun
  | [d1, d2] => { results := [.lit (.bool true)], args := [d1, d2] }
  | _ => none }
def responderRefusesRow : OpenClaim := { program := "ytlfbpnoempdiiaa", sum := "008944a8626b0b0c8bd046fed49b819228bb7de684951bc82085421e3eeac5e8", func := "baseboard/baseboardlaw25.ResponderRefuses", spec := "responderRefuses", unfollowed := true, recurses := true, apart := false }
def ResponderRefusesSaid : Prop := responderRefusesRow.holds Try.pinned (OpenSpec.ofChange responderRefusesSpec)

/-- ITS FALSE NEIGHBOUR: 'it returns false'. Refute it at one input. -/
def responderRefusesWrong : ChangeSpec := { name := "responderRefuses", fn := fun _ => fun
  | [d1, d2] => { results := [.lit (.bool false)], args := [d1, d2] }
  | _ => none }
def ResponderRefusesWrongFalsely : Prop := responderRefusesRow.holds Try.pinned (OpenSpec.ofChange responderRefusesWrong)

/-- 'baseboardlaw25.ResponderAnswers': WHATEVER THE INPUT: true; the input reads as it did. -/
def responderAnswersSpec : ChangeSpec := { name := "responderAnswers", fn := fun _ => fun
  | [d1, d2, d3, d4] => { results := [.lit (.bool true)], args := [d1, d2, d3, d4] }
  | _ => none }
def responderAnswersRow : OpenClaim := { program := "ytlfbpnoempdiiaa", sum := "008944a8626b0b0c8bd046fed49b819228bb7de684951bc82085421e3eeac5e8", func := "baseboard/baseboardlaw25.ResponderAnswers", spec := "responderAnswers", unfollowed := true, recurses := true, apart := false }
def ResponderAnswersSaid : Prop := responderAnswersRow.holds Try.pinned (OpenSpec.ofChange responderAnswersSpec)

/-- ITS FALSE NEIGHBOUR: 'it returns false'. Refute it at one input. -/
def responderAnswersWrong : ChangeSpec := { name := "responderAnswers", fn := fun _ => fun
  | [d1, d2, d3, d4] => { results := [.lit (.bool false)], args := [d1, d2, d3, d4] }
  | _ => none }
def ResponderAnswersWrongFalsely : Prop := responderAnswersRow.holds Try.pinned (OpenSpec.ofChange responderAnswersWrong)

/-- 'baseboardlaw25.ResponderOrder': WHATEVER THE INPUT: true; the input reads as it did. -/
def responderOrderSpec : ChangeSpec := { name := "responderOrder", fn := fun _ => fun
  | [d] => { results := [.lit (.bool true)], args := [d] }
  | _ => none }
def responderOrderRow : OpenClaim := { program := "ytlfbpnoempdiiaa", sum := "008944a8626b0b0c8bd046fed49b819228bb7de684951bc82085421e3eeac5e8", func := "baseboard/baseboardlaw25.ResponderOrder", spec := "responderOrder", unfollowed := true, recurses := true, apart := false }
def ResponderOrderSaid : Prop := responderOrderRow.holds Try.pinned (OpenSpec.ofChange responderOrderSpec)

/-- ITS FALSE NEIGHBOUR: 'it returns false'. Refute it at one input. -/
def responderOrderWrong : ChangeSpec := { name := "responderOrder", fn := fun _ => fun
  | [d] => { results := [.lit (.bool false)], args := [d] }
  | _ => none }
def ResponderOrderWrongFalsely : Prop := responderOrderRow.holds Try.pinned (OpenSpec.ofChange responderOrderWrong)

/- THE SECOND FORM. 'bulk': how many values and letters a reading holds, each counted each time it is reached (what is shared counts as often as it is met; a slice's spare places count too). A statement '..UptoSaid' is the law's where the arguments, and the package variables that the reading takes, are together of bulk at most 1048576: NARROWER than '..Said'. Prove '..Said' where nothing that the law and all that it calls make is longer than what came in: it says more and counts as full. Else prove '..UptoSaid'. A law counts once. -/
mutual
def uptoBulk {H : Type} : DataW H → Nat
  | .lit (.string bytes) => bytes.length + 1
  | .lit _ => 1
  | .nil => 1
  | .ptr d => uptoBulk d + 1
  | .slice elems spare => uptoBulkAll elems + uptoBulkAll spare + 1
  | .agg parts => uptoBulkAll parts + 1
  | .iface _ d => uptoBulk d + 1
  | .map entries => uptoBulkEntries entries + 1
  | .held _ => 1
def uptoBulkAll {H : Type} : List (DataW H) → Nat
  | [] => 0
  | d :: r => uptoBulk d + uptoBulkAll r
def uptoBulkEntries {H : Type} : List (Lit × DataW H) → Nat
  | [] => 0
  | x :: r => uptoBulkEntry x + uptoBulkEntries r
def uptoBulkEntry {H : Type} : Lit × DataW H → Nat
  | (.string bytes, d) => bytes.length + uptoBulk d + 1
  | (_, d) => uptoBulk d + 1
 end
def uptoSmall : (H : Type) → List (DataW H) → Bool := fun _ ds => decide (uptoBulkAll ds ≤ 1048576)
def OpenSpec.upto (s : _root_.Go.ChangeSpec) : _root_.Go.OpenSpec := { _root_.Go.OpenSpec.ofChange s with cond := some uptoSmall }

/-- 'baseboardlaw25.ResponderOnce', WHERE WHAT IT READS IS OF BULK AT MOST 1048576: true; the input reads as it did. -/
def responderOnceUptoRow : OpenClaim := { program := "ytlfbpnoempdiiaa", sum := "008944a8626b0b0c8bd046fed49b819228bb7de684951bc82085421e3eeac5e8", func := "baseboard/baseboardlaw25.ResponderOnce", spec := "responderOnce", unfollowed := true, recurses := true, apart := false, narrowed := true }
def ResponderOnceUptoSaid : Prop := responderOnceUptoRow.holds Try.pinned (OpenSpec.upto responderOnceSpec)

/-- 'baseboardlaw25.ResponderForgets', WHERE WHAT IT READS IS OF BULK AT MOST 1048576: true; the input reads as it did. -/
def responderForgetsUptoRow : OpenClaim := { program := "ytlfbpnoempdiiaa", sum := "008944a8626b0b0c8bd046fed49b819228bb7de684951bc82085421e3eeac5e8", func := "baseboard/baseboardlaw25.ResponderForgets", spec := "responderForgets", unfollowed := true, recurses := true, apart := false, narrowed := true }
def ResponderForgetsUptoSaid : Prop := responderForgetsUptoRow.holds Try.pinned (OpenSpec.upto responderForgetsSpec)

/-- 'baseboardlaw25.ResponderRefuses', WHERE WHAT IT READS IS OF BULK AT MOST 1048576: true; the input reads as it did. -/
def responderRefusesUptoRow : OpenClaim := { program := "ytlfbpnoempdiiaa", sum := "008944a8626b0b0c8bd046fed49b819228bb7de684951bc82085421e3eeac5e8", func := "baseboard/baseboardlaw25.ResponderRefuses", spec := "responderRefuses", unfollowed := true, recurses := true, apart := false, narrowed := true }
def ResponderRefusesUptoSaid : Prop := responderRefusesUptoRow.holds Try.pinned (OpenSpec.upto responderRefusesSpec)

/-- 'baseboardlaw25.ResponderAnswers', WHERE WHAT IT READS IS OF BULK AT MOST 1048576: true; the input reads as it did. -/
def responderAnswersUptoRow : OpenClaim := { program := "ytlfbpnoempdiiaa", sum := "008944a8626b0b0c8bd046fed49b819228bb7de684951bc82085421e3eeac5e8", func := "baseboard/baseboardlaw25.ResponderAnswers", spec := "responderAnswers", unfollowed := true, recurses := true, apart := false, narrowed := true }
def ResponderAnswersUptoSaid : Prop := responderAnswersUptoRow.holds Try.pinned (OpenSpec.upto responderAnswersSpec)

/-- 'baseboardlaw25.ResponderOrder', WHERE WHAT IT READS IS OF BULK AT MOST 1048576: true; the input reads as it did. -/
def responderOrderUptoRow : OpenClaim := { program := "ytlfbpnoempdiiaa", sum := "008944a8626b0b0c8bd046fed49b819228bb7de684951bc82085421e3eeac5e8", func := "baseboard/baseboardlaw25.ResponderOrder", spec := "responderOrder", unfollowed := true, recurses := true, apart := false, narrowed := true }
def ResponderOrderUptoSaid : Prop := responderOrderUptoRow.holds Try.pinned (OpenSpec.upto responderOrderSpec)

end Rows
end Go.Proofs.Ytlfbpnoempdiiaa
