/-
  No cell of these rows narrows 'for every input' (looked for: loops, veiled, ifaces, maps, wideKeys, modest, calm, conditions, laid).
  DERIVED. THE GIVEN ROWS OF THIS SEAT. 6 by the template 'for every input the law returns true; each argument reads behind the call as it read before'; 0 by the template 'total and deterministic' (their statements: YtedddoifbhcinaaTotals.lean).
  GIVEN WITH THE SEED: the statements are not yours to turn. If you find one false, say at which input.
  Laid BY PROGRAM, IN A SANDBOX (cutbox-rows.mjs): the forced cells as the released guide's own fill.sh prints them over the translation 8744a42e4364ab6e… (all of the seat's roots in one cut). By AI agents, Wed Nov 11 2026. No macro, syntax, notation, axiom, sorry.
-/
import Derived.Test.YtedddoifbhcinaaChecked
import GoSem.Claim
import GoSem.ClaimJoined
import GoSem.ClaimMapViews
import Derived.JoinedTies
import Derived.KernelRfl
namespace Go.Proofs.Ytedddoifbhcinaa
/- THE CELL 'sum', in the pinned program and in every row, IS THE sha256 OF THE DUMP (.gsa) THAT YtedddoifbhcinaaProg.lean LOADS. Nothing in Lean hashes anything: it is a label: what it is worth is what the hold of that sum in a sandbox is worth. -/
noncomputable def Try.pinned : Pinned := { name := "ytedddoifbhcinaa", sum := "8744a42e4364ab6edb3c86cf1fbfa5fb642600af9391237caa629cdf4c0816fb", checked := Try.checked }
namespace Rows
def none {H : Type} : Left H := { results := [], args := [] }

/-- 'baseboardlaw21.BusPlays': WHATEVER THE INPUT: true; the input reads as it did. -/
def busPlaysSpec : ChangeSpec := { name := "busPlays", fn := fun _ => fun
  | [d1, d2] => { results := [.lit (.bool true)], args := [d1, d2] }
  | _ => none }
def busPlaysRow : OpenClaim := { program := "ytedddoifbhcinaa", sum := "8744a42e4364ab6edb3c86cf1fbfa5fb642600af9391237caa629cdf4c0816fb", func := "baseboard/baseboardlaw21.BusPlays", spec := "busPlays", inPlace := ["internal/bytealg.Compare"], unfollowed := true, recurses := true, apart := false }
def BusPlaysSaid : Prop := busPlaysRow.holds Try.pinned (OpenSpec.ofChange busPlaysSpec)

/-- ITS FALSE NEIGHBOUR: 'it returns false'. Refute it at one input. -/
def busPlaysWrong : ChangeSpec := { name := "busPlays", fn := fun _ => fun
  | [d1, d2] => { results := [.lit (.bool false)], args := [d1, d2] }
  | _ => none }
def BusPlaysWrongFalsely : Prop := busPlaysRow.holds Try.pinned (OpenSpec.ofChange busPlaysWrong)

/-- 'baseboardlaw21.BusDelivers': WHATEVER THE INPUT: true; the input reads as it did. -/
def busDeliversSpec : ChangeSpec := { name := "busDelivers", fn := fun _ => fun
  | [d1, d2] => { results := [.lit (.bool true)], args := [d1, d2] }
  | _ => none }
def busDeliversRow : OpenClaim := { program := "ytedddoifbhcinaa", sum := "8744a42e4364ab6edb3c86cf1fbfa5fb642600af9391237caa629cdf4c0816fb", func := "baseboard/baseboardlaw21.BusDelivers", spec := "busDelivers", inPlace := ["internal/bytealg.Compare"], unfollowed := true, recurses := true, apart := false }
def BusDeliversSaid : Prop := busDeliversRow.holds Try.pinned (OpenSpec.ofChange busDeliversSpec)

/-- ITS FALSE NEIGHBOUR: 'it returns false'. Refute it at one input. -/
def busDeliversWrong : ChangeSpec := { name := "busDelivers", fn := fun _ => fun
  | [d1, d2] => { results := [.lit (.bool false)], args := [d1, d2] }
  | _ => none }
def BusDeliversWrongFalsely : Prop := busDeliversRow.holds Try.pinned (OpenSpec.ofChange busDeliversWrong)

/-- 'baseboardlaw21.BusHonest': WHATEVER THE INPUT: true; the input reads as it did. -/
def busHonestSpec : ChangeSpec := { name := "busHonest", fn := fun _ => fun
  | [d1, d2, d3] => { results := [.lit (.bool true)], args := [d1, d2, d3] }
  | _ => none }
def busHonestRow : OpenClaim := { program := "ytedddoifbhcinaa", sum := "8744a42e4364ab6edb3c86cf1fbfa5fb642600af9391237caa629cdf4c0816fb", func := "baseboard/baseboardlaw21.BusHonest", spec := "busHonest", inPlace := ["internal/bytealg.Compare"], unfollowed := true, recurses := true, apart := false }
def BusHonestSaid : Prop := busHonestRow.holds Try.pinned (OpenSpec.ofChange busHonestSpec)

/-- ITS FALSE NEIGHBOUR: 'it returns false'. Refute it at one input. -/
def busHonestWrong : ChangeSpec := { name := "busHonest", fn := fun _ => fun
  | [d1, d2, d3] => { results := [.lit (.bool false)], args := [d1, d2, d3] }
  | _ => none }
def BusHonestWrongFalsely : Prop := busHonestRow.holds Try.pinned (OpenSpec.ofChange busHonestWrong)

/-- 'baseboardlaw21.BusFaults': WHATEVER THE INPUT: true; the input reads as it did. -/
def busFaultsSpec : ChangeSpec := { name := "busFaults", fn := fun _ => fun
  | [d1, d2] => { results := [.lit (.bool true)], args := [d1, d2] }
  | _ => none }
def busFaultsRow : OpenClaim := { program := "ytedddoifbhcinaa", sum := "8744a42e4364ab6edb3c86cf1fbfa5fb642600af9391237caa629cdf4c0816fb", func := "baseboard/baseboardlaw21.BusFaults", spec := "busFaults", inPlace := ["internal/bytealg.Compare"], unfollowed := true, recurses := true, apart := false }
def BusFaultsSaid : Prop := busFaultsRow.holds Try.pinned (OpenSpec.ofChange busFaultsSpec)

/-- ITS FALSE NEIGHBOUR: 'it returns false'. Refute it at one input. -/
def busFaultsWrong : ChangeSpec := { name := "busFaults", fn := fun _ => fun
  | [d1, d2] => { results := [.lit (.bool false)], args := [d1, d2] }
  | _ => none }
def BusFaultsWrongFalsely : Prop := busFaultsRow.holds Try.pinned (OpenSpec.ofChange busFaultsWrong)

/-- 'baseboardlaw21.BusTogether': WHATEVER THE INPUT: true; the input reads as it did. -/
def busTogetherSpec : ChangeSpec := { name := "busTogether", fn := fun _ => fun
  | [d1, d2, d3] => { results := [.lit (.bool true)], args := [d1, d2, d3] }
  | _ => none }
def busTogetherRow : OpenClaim := { program := "ytedddoifbhcinaa", sum := "8744a42e4364ab6edb3c86cf1fbfa5fb642600af9391237caa629cdf4c0816fb", func := "baseboard/baseboardlaw21.BusTogether", spec := "busTogether", inPlace := ["internal/bytealg.Compare"], unfollowed := true, recurses := true, apart := false }
def BusTogetherSaid : Prop := busTogetherRow.holds Try.pinned (OpenSpec.ofChange busTogetherSpec)

/-- ITS FALSE NEIGHBOUR: 'it returns false'. Refute it at one input. -/
def busTogetherWrong : ChangeSpec := { name := "busTogether", fn := fun _ => fun
  | [d1, d2, d3] => { results := [.lit (.bool false)], args := [d1, d2, d3] }
  | _ => none }
def BusTogetherWrongFalsely : Prop := busTogetherRow.holds Try.pinned (OpenSpec.ofChange busTogetherWrong)

/-- 'baseboardlaw21.BusRoom': WHATEVER THE INPUT: true; the input reads as it did. -/
def busRoomSpec : ChangeSpec := { name := "busRoom", fn := fun _ => fun
  | [d1, d2, d3, d4] => { results := [.lit (.bool true)], args := [d1, d2, d3, d4] }
  | _ => none }
def busRoomRow : OpenClaim := { program := "ytedddoifbhcinaa", sum := "8744a42e4364ab6edb3c86cf1fbfa5fb642600af9391237caa629cdf4c0816fb", func := "baseboard/baseboardlaw21.BusRoom", spec := "busRoom", inPlace := ["internal/bytealg.Compare"], unfollowed := true, recurses := true, apart := false }
def BusRoomSaid : Prop := busRoomRow.holds Try.pinned (OpenSpec.ofChange busRoomSpec)

/-- ITS FALSE NEIGHBOUR: 'it returns false'. Refute it at one input. -/
def busRoomWrong : ChangeSpec := { name := "busRoom", fn := fun _ => fun
  | [d1, d2, d3, d4] => { results := [.lit (.bool false)], args := [d1, d2, d3, d4] }
  | _ => none }
def BusRoomWrongFalsely : Prop := busRoomRow.holds Try.pinned (OpenSpec.ofChange busRoomWrong)

/- THE SECOND FORM. 'bulk': how many values and letters a reading holds, each counted each time it is reached (what is shared counts as often as it is met; a slice's spare places count too). A statement '..UptoSaid' is the law's where the arguments, and the package variables that the reading takes, are together of bulk at most 1048576: NARROWER than '..Said'. Prove '..Said' where nothing that the law and all that it calls make is longer than what came in: it says more and counts as full. Else prove '..UptoSaid'. A law counts once. -/
mutual
def uptoBulk {H : Type} : DataW H → Nat
  | .lit (.string bytes) => bytes.length + 1
  | .lit _ => 1
  | .nil => 1
  | .ptr d => uptoBulk d + 1
  | .slice elems spare => uptoBulkAll elems + uptoBulkAll spare + 1
  | .agg parts => uptoBulkAll parts + 1
  | .iface _ d => uptoBulk d + 1
  | .map entries => uptoBulkEntries entries + 1
  | .held _ => 1
def uptoBulkAll {H : Type} : List (DataW H) → Nat
  | [] => 0
  | d :: r => uptoBulk d + uptoBulkAll r
def uptoBulkEntries {H : Type} : List (Lit × DataW H) → Nat
  | [] => 0
  | x :: r => uptoBulkEntry x + uptoBulkEntries r
def uptoBulkEntry {H : Type} : Lit × DataW H → Nat
  | (.string bytes, d) => bytes.length + uptoBulk d + 1
  | (_, d) => uptoBulk d + 1
 end
def uptoSmall : (H : Type) → List (DataW H) → Bool := fun _ ds => decide (uptoBulkAll ds ≤ 1048576)
def OpenSpec.upto (s : _root_.Go.ChangeSpec) : _root_.Go.OpenSpec := { _root_.Go.OpenSpec.ofChange s with cond := some uptoSmall }

/-- 'baseboardlaw21.BusPlays', WHERE WHAT IT READS IS OF BULK AT MOST 1048576: true; the input reads as it did. -/
def busPlaysUptoRow : OpenClaim := { program := "ytedddoifbhcinaa", sum := "8744a42e4364ab6edb3c86cf1fbfa5fb642600af9391237caa629cdf4c0816fb", func := "baseboard/baseboardlaw21.BusPlays", spec := "busPlays", inPlace := ["internal/bytealg.Compare"], unfollowed := true, recurses := true, apart := false, narrowed := true }
def BusPlaysUptoSaid : Prop := busPlaysUptoRow.holds Try.pinned (OpenSpec.upto busPlaysSpec)

/-- 'baseboardlaw21.BusDelivers', WHERE WHAT IT READS IS OF BULK AT MOST 1048576: true; the input reads as it did. -/
def busDeliversUptoRow : OpenClaim := { program := "ytedddoifbhcinaa", sum := "8744a42e4364ab6edb3c86cf1fbfa5fb642600af9391237caa629cdf4c0816fb", func := "baseboard/baseboardlaw21.BusDelivers", spec := "busDelivers", inPlace := ["internal/bytealg.Compare"], unfollowed := true, recurses := true, apart := false, narrowed := true }
def BusDeliversUptoSaid : Prop := busDeliversUptoRow.holds Try.pinned (OpenSpec.upto busDeliversSpec)

/-- 'baseboardlaw21.BusHonest', WHERE WHAT IT READS IS OF BULK AT MOST 1048576: true; the input reads as it did. -/
def busHonestUptoRow : OpenClaim := { program := "ytedddoifbhcinaa", sum := "8744a42e4364ab6edb3c86cf1fbfa5fb642600af9391237caa629cdf4c0816fb", func := "baseboard/baseboardlaw21.BusHonest", spec := "busHonest", inPlace := ["internal/bytealg.Compare"], unfollowed := true, recurses := true, apart := false, narrowed := true }
def BusHonestUptoSaid : Prop := busHonestUptoRow.holds Try.pinned (OpenSpec.upto busHonestSpec)

/-- 'baseboardlaw21.BusFaults', WHERE WHAT IT READS IS OF BULK AT MOST 1048576: true; the input reads as it did. -/
def busFaultsUptoRow : OpenClaim := { program := "ytedddoifbhcinaa", sum := "8744a42e4364ab6edb3c86cf1fbfa5fb642600af9391237caa629cdf4c0816fb", func := "baseboard/baseboardlaw21.BusFaults", spec := "busFaults", inPlace := ["internal/bytealg.Compare"], unfollowed := true, recurses := true, apart := false, narrowed := true }
def BusFaultsUptoSaid : Prop := busFaultsUptoRow.holds Try.pinned (OpenSpec.upto busFaultsSpec)

/-- 'baseboardlaw21.BusTogether', WHERE WHAT IT READS IS OF BULK AT MOST 1048576: true; the input reads as it did. -/
def busTogetherUptoRow : OpenClaim := { program := "ytedddoifbhcinaa", sum := "8744a42e4364ab6edb3c86cf1fbfa5fb642600af9391237caa629cdf4c0816fb", func := "baseboard/baseboardlaw21.BusTogether", spec := "busTogether", inPlace := ["internal/bytealg.Compare"], unfollowed := true, recurses := true, apart := false, narrowed := true }
def BusTogetherUptoSaid : Prop := busTogetherUptoRow.holds Try.pinned (OpenSpec.upto busTogetherSpec)

/-- 'baseboardlaw21.BusRoom', WHERE WHAT IT READS IS OF BULK AT MOST 1048576: true; the input reads as it did. -/
def busRoomUptoRow : OpenClaim := { program := "ytedddoifbhcinaa", sum := "8744a42e4364ab6edb3c86cf1fbfa5fb642600af9391237caa629cdf4c0816fb", func := "baseboard/baseboardlaw21.BusRoom", spec := "busRoom", inPlace := ["internal/bytealg.Compare"], unfollowed := true, recurses := true, apart := false, narrowed := true }
def BusRoomUptoSaid : Prop := busRoomUptoRow.holds Try.pinned (OpenSpec.upto busRoomSpec)

end Rows
end Go.Proofs.Ytedddoifbhcinaa
