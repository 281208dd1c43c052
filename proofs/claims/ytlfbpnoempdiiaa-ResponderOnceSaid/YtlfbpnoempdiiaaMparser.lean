/- What the reference parses requests to. No program in sight. -/
import Derived.Test.YtlfbpnoempdiiaaMparse
set_option linter.unusedVariables false
set_option linter.unusedSimpArgs false
namespace Lift
open Go
theorem rpar_eq {fuel : Nat} (hf : 5000 < fuel) {l : List Int} (h : Small l) : ref23_ParseRequest fuel l = some (mparse false l) := by
  unfold ref23_ParseRequest
  by_cases h0 : l.length < 7
  · have : decide ((l.length : Int) < IntKind.i64.wrap (7 + 0)) = true := decide_eq_true (by rw [show IntKind.i64.wrap (7 + 0) = 7 from rfl]; omega)
    unfold ref23_parse
    rw [this]
    simp [mparse, h0]
  · obtain ⟨b0, b1, b2, b3, b4, b5, R, c, D, rfl, e1, e2, h1, h2, h3⟩ := mparts h.1 false h0
    rw [rcore (p := 0) hf false rfl h h0 h1 h2 h3, bindP_some, e1, e2]; exact (congrArg some (if_neg h0)).symm
end Lift
