/-
  No cell of these rows narrows 'for every input' (looked for: loops, veiled, ifaces, maps, wideKeys, modest, calm, conditions, laid).
  DERIVED. THE GIVEN ROWS OF THIS SEAT. 5 by the template 'for every input the law returns true; each argument reads behind the call as it read before'; 0 by the template 'total and deterministic' (their statements: YtmhmkgijjgkbcaaTotals.lean).
  GIVEN WITH THE SEED: the statements are not yours to turn. If you find one false, say at which input.
  Laid BY PROGRAM, IN A SANDBOX (cutbox-rows.mjs): the forced cells as the released guide's own fill.sh prints them over the translation c036422a9bbf129a… (all of the seat's roots in one cut). By AI agents, Wed Nov 11 2026. No macro, syntax, notation, axiom, sorry.
-/
import Derived.Test.YtmhmkgijjgkbcaaChecked
import GoSem.Claim
import GoSem.ClaimJoined
import GoSem.ClaimMapViews
import Derived.JoinedTies
import Derived.KernelRfl
namespace Go.Proofs.Ytmhmkgijjgkbcaa
/- THE CELL 'sum', in the pinned program and in every row, IS THE sha256 OF THE DUMP (.gsa) THAT YtmhmkgijjgkbcaaProg.lean LOADS. Nothing in Lean hashes anything: it is a label: what it is worth is what the hold of that sum in a sandbox is worth. -/
noncomputable def Try.pinned : Pinned := { name := "ytmhmkgijjgkbcaa", sum := "c036422a9bbf129aeae7bc9f3caf3828282e6995f99617a9d48f0749ef2cd30a", checked := Try.checked }
namespace Rows
def none {H : Type} : Left H := { results := [], args := [] }

/-- 'baseboardlaw11.RepositoryParts': WHATEVER THE INPUT: true; the input reads as it did. -/
def repositoryPartsSpec : ChangeSpec := { name := "repositoryParts", fn := fun _ => fun
  | [d1, d2, d3] => { results := [.lit (.bool true)], args := [d1, d2, d3] }
  | _ => none }
def repositoryPartsRow : OpenClaim := { program := "ytmhmkgijjgkbcaa", sum := "c036422a9bbf129aeae7bc9f3caf3828282e6995f99617a9d48f0749ef2cd30a", func := "baseboard/baseboardlaw11.RepositoryParts", spec := "repositoryParts", unfollowed := true, recurses := true, apart := false }
def RepositoryPartsSaid : Prop := repositoryPartsRow.holds Try.pinned (OpenSpec.ofChange repositoryPartsSpec)

/-- ITS FALSE NEIGHBOUR: 'it returns false'. Refute it at one input. -/
def repositoryPartsWrong : ChangeSpec := { name := "repositoryParts", fn := fun _ => fun
  | [d1, d2, d3] => { results := [.lit (.bool false)], args := [d1, d2, d3] }
  | _ => none }
def RepositoryPartsWrongFalsely : Prop := repositoryPartsRow.holds Try.pinned (OpenSpec.ofChange repositoryPartsWrong)

/-- 'baseboardlaw11.RepositoryRoom': WHATEVER THE INPUT: true; the input reads as it did. -/
def repositoryRoomSpec : ChangeSpec := { name := "repositoryRoom", fn := fun _ => fun
  | [d1, d2] => { results := [.lit (.bool true)], args := [d1, d2] }
  | _ => none }
def repositoryRoomRow : OpenClaim := { program := "ytmhmkgijjgkbcaa", sum := "c036422a9bbf129aeae7bc9f3caf3828282e6995f99617a9d48f0749ef2cd30a", func := "baseboard/baseboardlaw11.RepositoryRoom", spec := "repositoryRoom", unfollowed := true, recurses := true, apart := false }
def RepositoryRoomSaid : Prop := repositoryRoomRow.holds Try.pinned (OpenSpec.ofChange repositoryRoomSpec)

/-- ITS FALSE NEIGHBOUR: 'it returns false'. Refute it at one input. -/
def repositoryRoomWrong : ChangeSpec := { name := "repositoryRoom", fn := fun _ => fun
  | [d1, d2] => { results := [.lit (.bool false)], args := [d1, d2] }
  | _ => none }
def RepositoryRoomWrongFalsely : Prop := repositoryRoomRow.holds Try.pinned (OpenSpec.ofChange repositoryRoomWrong)

/-- 'baseboardlaw11.RepositoryWalks': WHATEVER THE INPUT: true; the input reads as it did. -/
def repositoryWalksSpec : ChangeSpec := { name := "repositoryWalks", fn := fun _ => fun
  | [d1, d2] => { results := [.lit (.bool true)], args := [d1, d2] }
  | _ => none }
def repositoryWalksRow : OpenClaim := { program := "ytmhmkgijjgkbcaa", sum := "c036422a9bbf129aeae7bc9f3caf3828282e6995f99617a9d48f0749ef2cd30a", func := "baseboard/baseboardlaw11.RepositoryWalks", spec := "repositoryWalks", unfollowed := true, recurses := true, apart := false }
def RepositoryWalksSaid : Prop := repositoryWalksRow.holds Try.pinned (OpenSpec.ofChange repositoryWalksSpec)

/-- ITS FALSE NEIGHBOUR: 'it returns false'. Refute it at one input. -/
def repositoryWalksWrong : ChangeSpec := { name := "repositoryWalks", fn := fun _ => fun
  | [d1, d2] => { results := [.lit (.bool false)], args := [d1, d2] }
  | _ => none }
def RepositoryWalksWrongFalsely : Prop := repositoryWalksRow.holds Try.pinned (OpenSpec.ofChange repositoryWalksWrong)

/-- 'baseboardlaw11.RepositoryTears': WHATEVER THE INPUT: true; the input reads as it did. -/
def repositoryTearsSpec : ChangeSpec := { name := "repositoryTears", fn := fun _ => fun
  | [d1, d2, d3] => { results := [.lit (.bool true)], args := [d1, d2, d3] }
  | _ => none }
def repositoryTearsRow : OpenClaim := { program := "ytmhmkgijjgkbcaa", sum := "c036422a9bbf129aeae7bc9f3caf3828282e6995f99617a9d48f0749ef2cd30a", func := "baseboard/baseboardlaw11.RepositoryTears", spec := "repositoryTears", unfollowed := true, recurses := true, apart := false }
def RepositoryTearsSaid : Prop := repositoryTearsRow.holds Try.pinned (OpenSpec.ofChange repositoryTearsSpec)

/-- ITS FALSE NEIGHBOUR: 'it returns false'. Refute it at one input. -/
def repositoryTearsWrong : ChangeSpec := { name := "repositoryTears", fn := fun _ => fun
  | [d1, d2, d3] => { results := [.lit (.bool false)], args := [d1, d2, d3] }
  | _ => none }
def RepositoryTearsWrongFalsely : Prop := repositoryTearsRow.holds Try.pinned (OpenSpec.ofChange repositoryTearsWrong)

/-- 'baseboardlaw11.RepositoryPlays': WHATEVER THE INPUT: true; the input reads as it did. -/
def repositoryPlaysSpec : ChangeSpec := { name := "repositoryPlays", fn := fun _ => fun
  | [d1, d2] => { results := [.lit (.bool true)], args := [d1, d2] }
  | _ => none }
def repositoryPlaysRow : OpenClaim := { program := "ytmhmkgijjgkbcaa", sum := "c036422a9bbf129aeae7bc9f3caf3828282e6995f99617a9d48f0749ef2cd30a", func := "baseboard/baseboardlaw11.RepositoryPlays", spec := "repositoryPlays", unfollowed := true, recurses := true, apart := false }
def RepositoryPlaysSaid : Prop := repositoryPlaysRow.holds Try.pinned (OpenSpec.ofChange repositoryPlaysSpec)

/-- ITS FALSE NEIGHBOUR: 'it returns false'. Refute it at one input. -/
def repositoryPlaysWrong : ChangeSpec := { name := "repositoryPlays", fn := fun _ => fun
  | [d1, d2] => { results := [.lit (.bool false)], args := [d1, d2] }
  | _ => none }
def RepositoryPlaysWrongFalsely : Prop := repositoryPlaysRow.holds Try.pinned (OpenSpec.ofChange repositoryPlaysWrong)

/- THE SECOND FORM. 'bulk': how many values and letters a reading holds, each counted each time it is reached (what is shared counts as often as it is met; a slice's spare places count too). A statement '..UptoSaid' is the law's where the arguments, and the package variables that the reading takes, are together of bulk at most 1048576: NARROWER than '..Said'. Prove '..Said' where nothing that the law and all that it calls make is longer than what came in: it says more and counts as full. Else prove '..UptoSaid'. A law counts once. -/
mutual
def uptoBulk {H : Type} : DataW H → Nat
  | .lit (.string bytes) => bytes.length + 1
  | .lit _ => 1
  | .nil => 1
  | .ptr d => uptoBulk d + 1
  | .slice elems spare => uptoBulkAll elems + uptoBulkAll spare + 1
  | .agg parts => uptoBulkAll parts + 1
  | .iface _ d => uptoBulk d + 1
  | .map entries => uptoBulkEntries entries + 1
  | .held _ => 1
def uptoBulkAll {H : Type} : List (DataW H) → Nat
  | [] => 0
  | d :: r => uptoBulk d + uptoBulkAll r
def uptoBulkEntries {H : Type} : List (Lit × DataW H) → Nat
  | [] => 0
  | x :: r => uptoBulkEntry x + uptoBulkEntries r
def uptoBulkEntry {H : Type} : Lit × DataW H → Nat
  | (.string bytes, d) => bytes.length + uptoBulk d + 1
  | (_, d) => uptoBulk d + 1
 end
def uptoSmall : (H : Type) → List (DataW H) → Bool := fun _ ds => decide (uptoBulkAll ds ≤ 1048576)
def OpenSpec.upto (s : _root_.Go.ChangeSpec) : _root_.Go.OpenSpec := { _root_.Go.OpenSpec.ofChange s with cond := some uptoSmall }

/-- 'baseboardlaw11.RepositoryParts', WHERE WHAT IT READS IS OF BULK AT MOST 1048576: true; the input reads as it did. -/
def repositoryPartsUptoRow : OpenClaim := { program := "ytmhmkgijjgkbcaa", sum := "c036422a9bbf129aeae7bc9f3caf3828282e6995f99617a9d48f0749ef2cd30a", func := "baseboard/baseboardlaw11.RepositoryParts", spec := "repositoryParts", unfollowed := true, recurses := true, apart := false, narrowed := true }
def RepositoryPartsUptoSaid : Prop := repositoryPartsUptoRow.holds Try.pinned (OpenSpec.upto repositoryPartsSpec)

/-- 'baseboardlaw11.RepositoryRoom', WHERE WHAT IT READS IS OF BULK AT MOST 1048576: true; the input reads as it did. -/
def repositoryRoomUptoRow : OpenClaim := { program := "ytmhmkgijjgkbcaa", sum := "c036422a9bbf129aeae7bc9f3caf3828282e6995f99617a9d48f0749ef2cd30a", func := "baseboard/baseboardlaw11.RepositoryRoom", spec := "repositoryRoom", unfollowed := true, recurses := true, apart := false, narrowed := true }
def RepositoryRoomUptoSaid : Prop := repositoryRoomUptoRow.holds Try.pinned (OpenSpec.upto repositoryRoomSpec)

/-- 'baseboardlaw11.RepositoryWalks', WHERE WHAT IT READS IS OF BULK AT MOST 1048576: true; the input reads as it did. -/
def repositoryWalksUptoRow : OpenClaim := { program := "ytmhmkgijjgkbcaa", sum := "c036422a9bbf129aeae7bc9f3caf3828282e6995f99617a9d48f0749ef2cd30a", func := "baseboard/baseboardlaw11.RepositoryWalks", spec := "repositoryWalks", unfollowed := true, recurses := true, apart := false, narrowed := true }
def RepositoryWalksUptoSaid : Prop := repositoryWalksUptoRow.holds Try.pinned (OpenSpec.upto repositoryWalksSpec)

/-- 'baseboardlaw11.RepositoryTears', WHERE WHAT IT READS IS OF BULK AT MOST 1048576: true; the input reads as it did. -/
def repositoryTearsUptoRow : OpenClaim := { program := "ytmhmkgijjgkbcaa", sum := "c036422a9bbf129aeae7bc9f3caf3828282e6995f99617a9d48f0749ef2cd30a", func := "baseboard/baseboardlaw11.RepositoryTears", spec := "repositoryTears", unfollowed := true, recurses := true, apart := false, narrowed := true }
def RepositoryTearsUptoSaid : Prop := repositoryTearsUptoRow.holds Try.pinned (OpenSpec.upto repositoryTearsSpec)

/-- 'baseboardlaw11.RepositoryPlays', WHERE WHAT IT READS IS OF BULK AT MOST 1048576: true; the input reads as it did. -/
def repositoryPlaysUptoRow : OpenClaim := { program := "ytmhmkgijjgkbcaa", sum := "c036422a9bbf129aeae7bc9f3caf3828282e6995f99617a9d48f0749ef2cd30a", func := "baseboard/baseboardlaw11.RepositoryPlays", spec := "repositoryPlays", unfollowed := true, recurses := true, apart := false, narrowed := true }
def RepositoryPlaysUptoSaid : Prop := repositoryPlaysUptoRow.holds Try.pinned (OpenSpec.upto repositoryPlaysSpec)

end Rows
end Go.Proofs.Ytmhmkgijjgkbcaa
