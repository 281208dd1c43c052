/- The sanity check of law24. No program in sight. -/
import Derived.Test.YtkcogjblkenmgaaExch4
set_option linter.unusedVariables false
set_option linter.unusedSimpArgs false
namespace Lift
open Go
theorem law24_awake_eq : law24_awake 10000 = some true := by decide +kernel
end Lift
