/- What the walks ask of the table of types. Written by lift.py. -/
import Derived.Test.YtnfpldbkpdeeoaaChecksumSumsPlain
import Derived.Test.YtnfpldbkpdeeoaaChecked
namespace Lift
open Go Go.Proofs
theorem ty5 : Ty Try.prog 5 (Rep.int .u8) := ⟨⟨_, Try.underlying5, rfl⟩, by kernel_rfl, (fun _ => rfl)⟩
theorem ti5 : TI Try.prog 5 (.int .u8 0) 1 1 := TI.of (by kernel_rfl)
theorem rd5 : Rd Try.prog 5 (.int .u8) (okI .u8) := Rd.int Try.underlying5
theorem rd22 : Rd Try.prog 22 (Rep.slice (Rep.int .u8)) (okL (okI .u8)) := Rd.slice Try.underlying22 (by kernel_rfl) rfl rd5
end Lift
