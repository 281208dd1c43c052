/-
  NARROWER THAN 'FOR EVERY INPUT', by the rows' own cells (each row's printed sentence says how): TopLogged: laid · TopHealthy: laid · TopBeyond: laid · TopProvisioned: laid · TopProgrammed: laid · TopCarried: laid.
  DERIVED. THE GIVEN ROWS OF THIS SEAT. 6 by the template 'for every input the law returns true; each argument reads behind the call as it read before'; 0 by the template 'total and deterministic' (their statements: YtahlmfpllhmjoaaGreatDoorTotals.lean).
  GIVEN WITH THE SEED: the statements are not yours to turn. If you find one false, say at which input.
  Laid BY PROGRAM, IN A SANDBOX (cutbox-rows.mjs): the forced cells as the released guide's own fill.sh prints them over the translation fc4401342137785c… (all of the seat's roots in one cut). By AI agents, Wed Nov 11 2026. No macro, syntax, notation, axiom, sorry.
-/
import Derived.Test.YtahlmfpllhmjoaaGreatDoorChecked
import GoSem.Claim
import GoSem.ClaimJoined
import GoSem.ClaimMapViews
import Derived.JoinedTies
import Derived.KernelRfl
namespace Go.Proofs.YtahlmfpllhmjoaaGreatDoor
/- THE CELL 'sum', in the pinned program and in every row, IS THE sha256 OF THE DUMP (.gsa) THAT YtahlmfpllhmjoaaGreatDoorProg.lean LOADS. Nothing in Lean hashes anything: it is a label: what it is worth is what the hold of that sum in a sandbox is worth. -/
noncomputable def Tryz.pinned : Pinned := { name := "ytahlmfpllhmjoaagreatdoor", sum := "fc4401342137785c951289c42c0a9a646ac0915e146fda86dcc835dfe925fd4b", checked := Tryz.checked }
namespace Rows
def none {H : Type} : Left H := { results := [], args := [] }

/- WHAT THE LISTED PACKAGE-LEVEL VARIABLES READ AS WHEN THE CALL BEGINS. Each datum BY PROGRAM (the guide's laid-datum.mjs) off the statement by which the dump's own 'gosem.cut.vars' lays the variable. In a bare row this is a premise. The card (YtahlmfpllhmjoaaGreatDoorCards.lean) ties it to the program's text. -/
def laid_baseboard_event_offsets {H : Type} : DataW H := .agg [.lit (.int .u8 0), .lit (.int .u8 2), .lit (.int .u8 4), .lit (.int .u8 7), .lit (.int .u8 9), .lit (.int .u8 11)]

/-- 'baseboardtop.TopLogged': WHATEVER THE INPUT: true; the input reads as it did. -/
def topLoggedSpec : ChangeSpec := { name := "topLogged", fn := fun _ => fun
  | [d1, d2, d3, d4] => { results := [.lit (.bool true)], args := [d1, d2, d3, d4] }
  | _ => none }
def topLoggedRow : OpenClaim := { program := "ytahlmfpllhmjoaagreatdoor", sum := "fc4401342137785c951289c42c0a9a646ac0915e146fda86dcc835dfe925fd4b", func := "baseboard/baseboardtop.TopLogged", spec := "topLogged", unfollowed := true, recurses := true, named := ["baseboard/event.offsets"], plainKeys := false, apart := false, laid := [("baseboard/event.offsets", laid_baseboard_event_offsets)] }
def TopLoggedSaid : Prop := topLoggedRow.holds Tryz.pinned (OpenSpec.ofChange topLoggedSpec)

/-- ITS FALSE NEIGHBOUR: 'it returns false'. Refute it at one input. -/
def topLoggedWrong : ChangeSpec := { name := "topLogged", fn := fun _ => fun
  | [d1, d2, d3, d4] => { results := [.lit (.bool false)], args := [d1, d2, d3, d4] }
  | _ => none }
def TopLoggedWrongFalsely : Prop := topLoggedRow.holds Tryz.pinned (OpenSpec.ofChange topLoggedWrong)

/-- 'baseboardtop.TopHealthy': WHATEVER THE INPUT: true; the input reads as it did. -/
def topHealthySpec : ChangeSpec := { name := "topHealthy", fn := fun _ => fun
  | [d1, d2, d3] => { results := [.lit (.bool true)], args := [d1, d2, d3] }
  | _ => none }
def topHealthyRow : OpenClaim := { program := "ytahlmfpllhmjoaagreatdoor", sum := "fc4401342137785c951289c42c0a9a646ac0915e146fda86dcc835dfe925fd4b", func := "baseboard/baseboardtop.TopHealthy", spec := "topHealthy", unfollowed := true, recurses := true, named := ["baseboard/event.offsets"], plainKeys := false, apart := false, laid := [("baseboard/event.offsets", laid_baseboard_event_offsets)] }
def TopHealthySaid : Prop := topHealthyRow.holds Tryz.pinned (OpenSpec.ofChange topHealthySpec)

/-- ITS FALSE NEIGHBOUR: 'it returns false'. Refute it at one input. -/
def topHealthyWrong : ChangeSpec := { name := "topHealthy", fn := fun _ => fun
  | [d1, d2, d3] => { results := [.lit (.bool false)], args := [d1, d2, d3] }
  | _ => none }
def TopHealthyWrongFalsely : Prop := topHealthyRow.holds Tryz.pinned (OpenSpec.ofChange topHealthyWrong)

/-- 'baseboardtop.TopBeyond': WHATEVER THE INPUT: true; the input reads as it did. -/
def topBeyondSpec : ChangeSpec := { name := "topBeyond", fn := fun _ => fun
  | [d1, d2] => { results := [.lit (.bool true)], args := [d1, d2] }
  | _ => none }
def topBeyondRow : OpenClaim := { program := "ytahlmfpllhmjoaagreatdoor", sum := "fc4401342137785c951289c42c0a9a646ac0915e146fda86dcc835dfe925fd4b", func := "baseboard/baseboardtop.TopBeyond", spec := "topBeyond", inPlace := ["math.sqrt"], unfollowed := true, recurses := true, named := ["baseboard/event.offsets", "math/bits.divideError", "math/bits.overflowError"], plainKeys := false, apart := false, laid := [("baseboard/event.offsets", laid_baseboard_event_offsets)] }
def TopBeyondSaid : Prop := topBeyondRow.holds Tryz.pinned (OpenSpec.ofChange topBeyondSpec)

/-- ITS FALSE NEIGHBOUR: 'it returns false'. Refute it at one input. -/
def topBeyondWrong : ChangeSpec := { name := "topBeyond", fn := fun _ => fun
  | [d1, d2] => { results := [.lit (.bool false)], args := [d1, d2] }
  | _ => none }
def TopBeyondWrongFalsely : Prop := topBeyondRow.holds Tryz.pinned (OpenSpec.ofChange topBeyondWrong)

/-- 'baseboardtop.TopProvisioned': WHATEVER THE INPUT: true; the input reads as it did. -/
def topProvisionedSpec : ChangeSpec := { name := "topProvisioned", fn := fun _ => fun
  | [d1, d2, d3] => { results := [.lit (.bool true)], args := [d1, d2, d3] }
  | _ => none }
def topProvisionedRow : OpenClaim := { program := "ytahlmfpllhmjoaagreatdoor", sum := "fc4401342137785c951289c42c0a9a646ac0915e146fda86dcc835dfe925fd4b", func := "baseboard/baseboardtop.TopProvisioned", spec := "topProvisioned", unfollowed := true, recurses := true, named := ["baseboard/event.offsets"], plainKeys := false, apart := false, laid := [("baseboard/event.offsets", laid_baseboard_event_offsets)] }
def TopProvisionedSaid : Prop := topProvisionedRow.holds Tryz.pinned (OpenSpec.ofChange topProvisionedSpec)

/-- ITS FALSE NEIGHBOUR: 'it returns false'. Refute it at one input. -/
def topProvisionedWrong : ChangeSpec := { name := "topProvisioned", fn := fun _ => fun
  | [d1, d2, d3] => { results := [.lit (.bool false)], args := [d1, d2, d3] }
  | _ => none }
def TopProvisionedWrongFalsely : Prop := topProvisionedRow.holds Tryz.pinned (OpenSpec.ofChange topProvisionedWrong)

/-- 'baseboardtop.TopProgrammed': WHATEVER THE INPUT: true; the input reads as it did. -/
def topProgrammedSpec : ChangeSpec := { name := "topProgrammed", fn := fun _ => fun
  | [d1, d2, d3] => { results := [.lit (.bool true)], args := [d1, d2, d3] }
  | _ => none }
def topProgrammedRow : OpenClaim := { program := "ytahlmfpllhmjoaagreatdoor", sum := "fc4401342137785c951289c42c0a9a646ac0915e146fda86dcc835dfe925fd4b", func := "baseboard/baseboardtop.TopProgrammed", spec := "topProgrammed", inPlace := ["math.sqrt"], unfollowed := true, recurses := true, named := ["baseboard/event.offsets", "math/bits.divideError", "math/bits.overflowError"], plainKeys := false, apart := false, laid := [("baseboard/event.offsets", laid_baseboard_event_offsets)] }
def TopProgrammedSaid : Prop := topProgrammedRow.holds Tryz.pinned (OpenSpec.ofChange topProgrammedSpec)

/-- ITS FALSE NEIGHBOUR: 'it returns false'. Refute it at one input. -/
def topProgrammedWrong : ChangeSpec := { name := "topProgrammed", fn := fun _ => fun
  | [d1, d2, d3] => { results := [.lit (.bool false)], args := [d1, d2, d3] }
  | _ => none }
def TopProgrammedWrongFalsely : Prop := topProgrammedRow.holds Tryz.pinned (OpenSpec.ofChange topProgrammedWrong)

/-- 'baseboardtop.TopCarried': WHATEVER THE INPUT: true; the input reads as it did. -/
def topCarriedSpec : ChangeSpec := { name := "topCarried", fn := fun _ => fun
  | [d1, d2, d3, d4] => { results := [.lit (.bool true)], args := [d1, d2, d3, d4] }
  | _ => none }
def topCarriedRow : OpenClaim := { program := "ytahlmfpllhmjoaagreatdoor", sum := "fc4401342137785c951289c42c0a9a646ac0915e146fda86dcc835dfe925fd4b", func := "baseboard/baseboardtop.TopCarried", spec := "topCarried", inPlace := ["internal/bytealg.Compare"], unfollowed := true, recurses := true, named := ["baseboard/event.offsets"], plainKeys := false, apart := false, laid := [("baseboard/event.offsets", laid_baseboard_event_offsets)] }
def TopCarriedSaid : Prop := topCarriedRow.holds Tryz.pinned (OpenSpec.ofChange topCarriedSpec)

/-- ITS FALSE NEIGHBOUR: 'it returns false'. Refute it at one input. -/
def topCarriedWrong : ChangeSpec := { name := "topCarried", fn := fun _ => fun
  | [d1, d2, d3, d4] => { results := [.lit (.bool false)], args := [d1, d2, d3, d4] }
  | _ => none }
def TopCarriedWrongFalsely : Prop := topCarriedRow.holds Tryz.pinned (OpenSpec.ofChange topCarriedWrong)

/- THE SECOND FORM. 'bulk': how many values and letters a reading holds, each counted each time it is reached (what is shared counts as often as it is met; a slice's spare places count too). A statement '..UptoSaid' is the law's where the arguments, and the package variables that the reading takes, are together of bulk at most 1048576: NARROWER than '..Said'. Prove '..Said' where nothing that the law and all that it calls make is longer than what came in: it says more and counts as full. Else prove '..UptoSaid'. A law counts once. -/
mutual
def uptoBulk {H : Type} : DataW H → Nat
  | .lit (.string bytes) => bytes.length + 1
  | .lit _ => 1
  | .nil => 1
  | .ptr d => uptoBulk d + 1
  | .slice elems spare => uptoBulkAll elems + uptoBulkAll spare + 1
  | .agg parts => uptoBulkAll parts + 1
  | .iface _ d => uptoBulk d + 1
  | .map entries => uptoBulkEntries entries + 1
  | .held _ => 1
def uptoBulkAll {H : Type} : List (DataW H) → Nat
  | [] => 0
  | d :: r => uptoBulk d + uptoBulkAll r
def uptoBulkEntries {H : Type} : List (Lit × DataW H) → Nat
  | [] => 0
  | x :: r => uptoBulkEntry x + uptoBulkEntries r
def uptoBulkEntry {H : Type} : Lit × DataW H → Nat
  | (.string bytes, d) => bytes.length + uptoBulk d + 1
  | (_, d) => uptoBulk d + 1
 end
def uptoSmall : (H : Type) → List (DataW H) → Bool := fun _ ds => decide (uptoBulkAll ds ≤ 1048576)
def OpenSpec.upto (s : _root_.Go.ChangeSpec) : _root_.Go.OpenSpec := { _root_.Go.OpenSpec.ofChange s with cond := some uptoSmall }

/-- 'baseboardtop.TopLogged', WHERE WHAT IT READS IS OF BULK AT MOST 1048576: true; the input reads as it did. -/
def topLoggedUptoRow : OpenClaim := { program := "ytahlmfpllhmjoaagreatdoor", sum := "fc4401342137785c951289c42c0a9a646ac0915e146fda86dcc835dfe925fd4b", func := "baseboard/baseboardtop.TopLogged", spec := "topLogged", unfollowed := true, recurses := true, named := ["baseboard/event.offsets"], plainKeys := false, apart := false, laid := [("baseboard/event.offsets", laid_baseboard_event_offsets)], narrowed := true }
def TopLoggedUptoSaid : Prop := topLoggedUptoRow.holds Tryz.pinned (OpenSpec.upto topLoggedSpec)

/-- 'baseboardtop.TopHealthy', WHERE WHAT IT READS IS OF BULK AT MOST 1048576: true; the input reads as it did. -/
def topHealthyUptoRow : OpenClaim := { program := "ytahlmfpllhmjoaagreatdoor", sum := "fc4401342137785c951289c42c0a9a646ac0915e146fda86dcc835dfe925fd4b", func := "baseboard/baseboardtop.TopHealthy", spec := "topHealthy", unfollowed := true, recurses := true, named := ["baseboard/event.offsets"], plainKeys := false, apart := false, laid := [("baseboard/event.offsets", laid_baseboard_event_offsets)], narrowed := true }
def TopHealthyUptoSaid : Prop := topHealthyUptoRow.holds Tryz.pinned (OpenSpec.upto topHealthySpec)

/-- 'baseboardtop.TopBeyond', WHERE WHAT IT READS IS OF BULK AT MOST 1048576: true; the input reads as it did. -/
def topBeyondUptoRow : OpenClaim := { program := "ytahlmfpllhmjoaagreatdoor", sum := "fc4401342137785c951289c42c0a9a646ac0915e146fda86dcc835dfe925fd4b", func := "baseboard/baseboardtop.TopBeyond", spec := "topBeyond", inPlace := ["math.sqrt"], unfollowed := true, recurses := true, named := ["baseboard/event.offsets", "math/bits.divideError", "math/bits.overflowError"], plainKeys := false, apart := false, laid := [("baseboard/event.offsets", laid_baseboard_event_offsets)], narrowed := true }
def TopBeyondUptoSaid : Prop := topBeyondUptoRow.holds Tryz.pinned (OpenSpec.upto topBeyondSpec)

/-- 'baseboardtop.TopProvisioned', WHERE WHAT IT READS IS OF BULK AT MOST 1048576: true; the input reads as it did. -/
def topProvisionedUptoRow : OpenClaim := { program := "ytahlmfpllhmjoaagreatdoor", sum := "fc4401342137785c951289c42c0a9a646ac0915e146fda86dcc835dfe925fd4b", func := "baseboard/baseboardtop.TopProvisioned", spec := "topProvisioned", unfollowed := true, recurses := true, named := ["baseboard/event.offsets"], plainKeys := false, apart := false, laid := [("baseboard/event.offsets", laid_baseboard_event_offsets)], narrowed := true }
def TopProvisionedUptoSaid : Prop := topProvisionedUptoRow.holds Tryz.pinned (OpenSpec.upto topProvisionedSpec)

/-- 'baseboardtop.TopProgrammed', WHERE WHAT IT READS IS OF BULK AT MOST 1048576: true; the input reads as it did. -/
def topProgrammedUptoRow : OpenClaim := { program := "ytahlmfpllhmjoaagreatdoor", sum := "fc4401342137785c951289c42c0a9a646ac0915e146fda86dcc835dfe925fd4b", func := "baseboard/baseboardtop.TopProgrammed", spec := "topProgrammed", inPlace := ["math.sqrt"], unfollowed := true, recurses := true, named := ["baseboard/event.offsets", "math/bits.divideError", "math/bits.overflowError"], plainKeys := false, apart := false, laid := [("baseboard/event.offsets", laid_baseboard_event_offsets)], narrowed := true }
def TopProgrammedUptoSaid : Prop := topProgrammedUptoRow.holds Tryz.pinned (OpenSpec.upto topProgrammedSpec)

/-- 'baseboardtop.TopCarried', WHERE WHAT IT READS IS OF BULK AT MOST 1048576: true; the input reads as it did. -/
def topCarriedUptoRow : OpenClaim := { program := "ytahlmfpllhmjoaagreatdoor", sum := "fc4401342137785c951289c42c0a9a646ac0915e146fda86dcc835dfe925fd4b", func := "baseboard/baseboardtop.TopCarried", spec := "topCarried", inPlace := ["internal/bytealg.Compare"], unfollowed := true, recurses := true, named := ["baseboard/event.offsets"], plainKeys := false, apart := false, laid := [("baseboard/event.offsets", laid_baseboard_event_offsets)], narrowed := true }
def TopCarriedUptoSaid : Prop := topCarriedUptoRow.holds Tryz.pinned (OpenSpec.upto topCarriedSpec)

end Rows
end Go.Proofs.YtahlmfpllhmjoaaGreatDoor
