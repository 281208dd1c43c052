/- The sanity check of law23. No program in sight. -/
import Derived.Test.YthjhbfpacbldgaaMessages
set_option linter.unusedVariables false
set_option linter.unusedSimpArgs false
namespace Lift
open Go
theorem law23_awake_eq : law23_awake 6000 = some true := by decide +kernel
end Lift
