/- The laws of frames: what they share. No program in sight. -/
import Derived.Test.YtmjilnfeddaekaaFrames
namespace Lift
open Go
theorem law20_awake_eq : law20_awake 6000 = some true := by decide +kernel
end Lift
