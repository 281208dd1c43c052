/- The sanity check of law25. No program in sight. -/
import Derived.Test.YtlfbpnoempdiiaaPlain
set_option linter.unusedVariables false
set_option linter.unusedSimpArgs false
namespace Lift
open Go
theorem law25_awake_eq : law25_awake 10000 = some true := by decide +kernel
end Lift
