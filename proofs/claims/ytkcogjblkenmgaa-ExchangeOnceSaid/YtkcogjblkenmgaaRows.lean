/-
  No cell of these rows narrows 'for every input' (looked for: loops, veiled, ifaces, maps, wideKeys, modest, calm, conditions, laid).
  DERIVED. THE GIVEN ROWS OF THIS SEAT. 5 by the template 'for every input the law returns true; each argument reads behind the call as it read before'; 0 by the template 'total and deterministic' (their statements: YtkcogjblkenmgaaTotals.lean).
  GIVEN WITH THE SEED: the statements are not yours to turn. If you find one false, say at which input.
  Laid BY PROGRAM, IN A SANDBOX (cutbox-rows.mjs): the forced cells as the released guide's own fill.sh prints them over the translation 0ab1062a88255726… (all of the seat's roots in one cut). By AI agents, Wed Nov 11 2026. No macro, syntax, notation, axiom, sorry.
-/
import Derived.Test.YtkcogjblkenmgaaChecked
import GoSem.Claim
import GoSem.ClaimJoined
import GoSem.ClaimMapViews
import Derived.JoinedTies
import Derived.KernelRfl
namespace Go.Proofs.Ytkcogjblkenmgaa
/- THE CELL 'sum', in the pinned program and in every row, IS THE sha256 OF THE DUMP (.gsa) THAT YtkcogjblkenmgaaProg.lean LOADS. Nothing in Lean hashes anything: it is a label: what it is worth is what the hold of that sum in a sandbox is worth. -/
noncomputable def Try.pinned : Pinned := { name := "ytkcogjblkenmgaa", sum := "0ab1062a882557268718e3051a204a7a65809620a6eca00eb6197a98d79311c5", checked := Try.checked }
namespace Rows
def none {H : Type} : Left H := { results := [], args := [] }

/-- 'baseboardlaw24.ExchangeTimes': WHATEVER THE INPUT: true; the input reads as it did. -/
def exchangeTimesSpec : ChangeSpec := { name := "exchangeTimes", fn := fun _ => fun
  | [d1, d2] => { results := [.lit (.bool true)], args := [d1, d2] }
  | _ => none }
def exchangeTimesRow : OpenClaim := { program := "ytkcogjblkenmgaa", sum := "0ab1062a882557268718e3051a204a7a65809620a6eca00eb6197a98d79311c5", func := "baseboard/baseboardlaw24.ExchangeTimes", spec := "exchangeTimes", apart := false }
def ExchangeTimesSaid : Prop := exchangeTimesRow.holds Try.pinned (OpenSpec.ofChange exchangeTimesSpec)

/-- ITS FALSE NEIGHBOUR: 'it returns false'. Refute it at one input. -/
def exchangeTimesWrong : ChangeSpec := { name := "exchangeTimes", fn := fun _ => fun
  | [d1, d2] => { results := [.lit (.bool false)], args := [d1, d2] }
  | _ => none }
def ExchangeTimesWrongFalsely : Prop := exchangeTimesRow.holds Try.pinned (OpenSpec.ofChange exchangeTimesWrong)

/-- 'baseboardlaw24.ExchangeAnswers': WHATEVER THE INPUT: true; the input reads as it did. -/
def exchangeAnswersSpec : ChangeSpec := { name := "exchangeAnswers", fn := fun _ => fun
  | [d1, d2, d3, d4] => { results := [.lit (.bool true)], args := [d1, d2, d3, d4] }
  | _ => none }
def exchangeAnswersRow : OpenClaim := { program := "ytkcogjblkenmgaa", sum := "0ab1062a882557268718e3051a204a7a65809620a6eca00eb6197a98d79311c5", func := "baseboard/baseboardlaw24.ExchangeAnswers", spec := "exchangeAnswers", apart := false }
def ExchangeAnswersSaid : Prop := exchangeAnswersRow.holds Try.pinned (OpenSpec.ofChange exchangeAnswersSpec)

/-- ITS FALSE NEIGHBOUR: 'it returns false'. Refute it at one input. -/
def exchangeAnswersWrong : ChangeSpec := { name := "exchangeAnswers", fn := fun _ => fun
  | [d1, d2, d3, d4] => { results := [.lit (.bool false)], args := [d1, d2, d3, d4] }
  | _ => none }
def ExchangeAnswersWrongFalsely : Prop := exchangeAnswersRow.holds Try.pinned (OpenSpec.ofChange exchangeAnswersWrong)

/-- 'baseboardlaw24.ExchangeOnce': WHATEVER THE INPUT: true; the input reads as it did. -/
def exchangeOnceSpec : ChangeSpec := { name := "exchangeOnce", fn := fun _ => fun
  | [d] => { results := [.lit (.bool true)], args := [d] }
  | _ => none }
def exchangeOnceRow : OpenClaim := { program := "ytkcogjblkenmgaa", sum := "0ab1062a882557268718e3051a204a7a65809620a6eca00eb6197a98d79311c5", func := "baseboard/baseboardlaw24.ExchangeOnce", spec := "exchangeOnce", apart := false }
def ExchangeOnceSaid : Prop := exchangeOnceRow.holds Try.pinned (OpenSpec.ofChange exchangeOnceSpec)

/-- ITS FALSE NEIGHBOUR: 'it returns false'. Refute it at one input. -/
def exchangeOnceWrong : ChangeSpec := { name := "exchangeOnce", fn := fun _ => fun
  | [d] => { results := [.lit (.bool false)], args := [d] }
  | _ => none }
def ExchangeOnceWrongFalsely : Prop := exchangeOnceRow.holds Try.pinned (OpenSpec.ofChange exchangeOnceWrong)

/-- 'baseboardlaw24.ExchangeIgnores': WHATEVER THE INPUT: true; the input reads as it did. -/
def exchangeIgnoresSpec : ChangeSpec := { name := "exchangeIgnores", fn := fun _ => fun
  | [d1, d2, d3] => { results := [.lit (.bool true)], args := [d1, d2, d3] }
  | _ => none }
def exchangeIgnoresRow : OpenClaim := { program := "ytkcogjblkenmgaa", sum := "0ab1062a882557268718e3051a204a7a65809620a6eca00eb6197a98d79311c5", func := "baseboard/baseboardlaw24.ExchangeIgnores", spec := "exchangeIgnores", apart := false }
def ExchangeIgnoresSaid : Prop := exchangeIgnoresRow.holds Try.pinned (OpenSpec.ofChange exchangeIgnoresSpec)

/-- ITS FALSE NEIGHBOUR: 'it returns false'. Refute it at one input. -/
def exchangeIgnoresWrong : ChangeSpec := { name := "exchangeIgnores", fn := fun _ => fun
  | [d1, d2, d3] => { results := [.lit (.bool false)], args := [d1, d2, d3] }
  | _ => none }
def ExchangeIgnoresWrongFalsely : Prop := exchangeIgnoresRow.holds Try.pinned (OpenSpec.ofChange exchangeIgnoresWrong)

/-- 'baseboardlaw24.ExchangeNumbers': WHATEVER THE INPUT: true; the input reads as it did. -/
def exchangeNumbersSpec : ChangeSpec := { name := "exchangeNumbers", fn := fun _ => fun
  | [d1, d2] => { results := [.lit (.bool true)], args := [d1, d2] }
  | _ => none }
def exchangeNumbersRow : OpenClaim := { program := "ytkcogjblkenmgaa", sum := "0ab1062a882557268718e3051a204a7a65809620a6eca00eb6197a98d79311c5", func := "baseboard/baseboardlaw24.ExchangeNumbers", spec := "exchangeNumbers", apart := false }
def ExchangeNumbersSaid : Prop := exchangeNumbersRow.holds Try.pinned (OpenSpec.ofChange exchangeNumbersSpec)

/-- ITS FALSE NEIGHBOUR: 'it returns false'. Refute it at one input. -/
def exchangeNumbersWrong : ChangeSpec := { name := "exchangeNumbers", fn := fun _ => fun
  | [d1, d2] => { results := [.lit (.bool false)], args := [d1, d2] }
  | _ => none }
def ExchangeNumbersWrongFalsely : Prop := exchangeNumbersRow.holds Try.pinned (OpenSpec.ofChange exchangeNumbersWrong)

/- THE SECOND FORM. 'bulk': how many values and letters a reading holds, each counted each time it is reached (what is shared counts as often as it is met; a slice's spare places count too). A statement '..UptoSaid' is the law's where the arguments, and the package variables that the reading takes, are together of bulk at most 1048576: NARROWER than '..Said'. Prove '..Said' where nothing that the law and all that it calls make is longer than what came in: it says more and counts as full. Else prove '..UptoSaid'. A law counts once. -/
mutual
def uptoBulk {H : Type} : DataW H → Nat
  | .lit (.string bytes) => bytes.length + 1
  | .lit _ => 1
  | .nil => 1
  | .ptr d => uptoBulk d + 1
  | .slice elems spare => uptoBulkAll elems + uptoBulkAll spare + 1
  | .agg parts => uptoBulkAll parts + 1
  | .iface _ d => uptoBulk d + 1
  | .map entries => uptoBulkEntries entries + 1
  | .held _ => 1
def uptoBulkAll {H : Type} : List (DataW H) → Nat
  | [] => 0
  | d :: r => uptoBulk d + uptoBulkAll r
def uptoBulkEntries {H : Type} : List (Lit × DataW H) → Nat
  | [] => 0
  | x :: r => uptoBulkEntry x + uptoBulkEntries r
def uptoBulkEntry {H : Type} : Lit × DataW H → Nat
  | (.string bytes, d) => bytes.length + uptoBulk d + 1
  | (_, d) => uptoBulk d + 1
 end
def uptoSmall : (H : Type) → List (DataW H) → Bool := fun _ ds => decide (uptoBulkAll ds ≤ 1048576)
def OpenSpec.upto (s : _root_.Go.ChangeSpec) : _root_.Go.OpenSpec := { _root_.Go.OpenSpec.ofChange s with cond := some uptoSmall }

/-- 'baseboardlaw24.ExchangeTimes', WHERE WHAT IT READS IS OF BULK AT MOST 1048576: true; the input reads as it did. -/
def exchangeTimesUptoRow : OpenClaim := { program := "ytkcogjblkenmgaa", sum := "0ab1062a882557268718e3051a204a7a65809620a6eca00eb6197a98d79311c5", func := "baseboard/baseboardlaw24.ExchangeTimes", spec := "exchangeTimes", apart := false, narrowed := true }
def ExchangeTimesUptoSaid : Prop := exchangeTimesUptoRow.holds Try.pinned (OpenSpec.upto exchangeTimesSpec)

/-- 'baseboardlaw24.ExchangeAnswers', WHERE WHAT IT READS IS OF BULK AT MOST 1048576: true; the input reads as it did. -/
def exchangeAnswersUptoRow : OpenClaim := { program := "ytkcogjblkenmgaa", sum := "0ab1062a882557268718e3051a204a7a65809620a6eca00eb6197a98d79311c5", func := "baseboard/baseboardlaw24.ExchangeAnswers", spec := "exchangeAnswers", apart := false, narrowed := true }
def ExchangeAnswersUptoSaid : Prop := exchangeAnswersUptoRow.holds Try.pinned (OpenSpec.upto exchangeAnswersSpec)

/-- 'baseboardlaw24.ExchangeOnce', WHERE WHAT IT READS IS OF BULK AT MOST 1048576: true; the input reads as it did. -/
def exchangeOnceUptoRow : OpenClaim := { program := "ytkcogjblkenmgaa", sum := "0ab1062a882557268718e3051a204a7a65809620a6eca00eb6197a98d79311c5", func := "baseboard/baseboardlaw24.ExchangeOnce", spec := "exchangeOnce", apart := false, narrowed := true }
def ExchangeOnceUptoSaid : Prop := exchangeOnceUptoRow.holds Try.pinned (OpenSpec.upto exchangeOnceSpec)

/-- 'baseboardlaw24.ExchangeIgnores', WHERE WHAT IT READS IS OF BULK AT MOST 1048576: true; the input reads as it did. -/
def exchangeIgnoresUptoRow : OpenClaim := { program := "ytkcogjblkenmgaa", sum := "0ab1062a882557268718e3051a204a7a65809620a6eca00eb6197a98d79311c5", func := "baseboard/baseboardlaw24.ExchangeIgnores", spec := "exchangeIgnores", apart := false, narrowed := true }
def ExchangeIgnoresUptoSaid : Prop := exchangeIgnoresUptoRow.holds Try.pinned (OpenSpec.upto exchangeIgnoresSpec)

/-- 'baseboardlaw24.ExchangeNumbers', WHERE WHAT IT READS IS OF BULK AT MOST 1048576: true; the input reads as it did. -/
def exchangeNumbersUptoRow : OpenClaim := { program := "ytkcogjblkenmgaa", sum := "0ab1062a882557268718e3051a204a7a65809620a6eca00eb6197a98d79311c5", func := "baseboard/baseboardlaw24.ExchangeNumbers", spec := "exchangeNumbers", apart := false, narrowed := true }
def ExchangeNumbersUptoSaid : Prop := exchangeNumbersUptoRow.holds Try.pinned (OpenSpec.upto exchangeNumbersSpec)

end Rows
end Go.Proofs.Ytkcogjblkenmgaa
