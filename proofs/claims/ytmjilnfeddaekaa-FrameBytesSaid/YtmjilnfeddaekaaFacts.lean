/- What the walks ask of the table of types. Written by lift.py. -/
import Derived.Test.YtmjilnfeddaekaaPlain
import Derived.Test.YtmjilnfeddaekaaChecked
namespace Lift
open Go Go.Proofs
theorem fa30_0 : FA Try.prog 30 0 0 := ⟨_, _, Try.underlying30, rfl, rfl, by kernel_rfl⟩
theorem ty5 : Ty Try.prog 5 (Rep.int .u8) := ⟨⟨_, Try.underlying5, rfl⟩, by kernel_rfl, (fun _ => rfl)⟩
theorem fa30_1 : FA Try.prog 30 1 1 := ⟨_, _, Try.underlying30, rfl, rfl, by kernel_rfl⟩
theorem fa30_2 : FA Try.prog 30 2 2 := ⟨_, _, Try.underlying30, rfl, rfl, by kernel_rfl⟩
theorem ty22 : Ty Try.prog 22 (Rep.slice (Rep.int .u8)) := ⟨⟨_, Try.underlying22, rfl⟩, by kernel_rfl, (fun _ => rfl)⟩
theorem ti5 : TI Try.prog 5 (.int .u8 0) 1 1 := TI.of (by kernel_rfl)
theorem ty30 : Ty Try.prog 30 Frame_.rep := ⟨⟨_, Try.underlying30, rfl⟩, by kernel_rfl, (fun h => Bool.noConfusion h)⟩
theorem Try_mixed : Try.prog.follows .mixedOrders = true := Try.checked.mixed
theorem ext37 : Extern.find Try.f37 = some Extern.BytealgCompare.compare := by kernel_rfl
theorem ext37n : Extern.findNext Try.f37 = none := by kernel_rfl
theorem pl30 : PL Try.prog 30 [(0, 1), (1, 1), (2, 1)] := ⟨_, Try.underlying30, by kernel_rfl⟩
theorem ti30 : TI Try.prog 30 (.agg #[.int .u8 0, .int .u8 0, .slice none 0 0]) 3 32 := TI.of (by kernel_rfl)
theorem pl54 : PL Try.prog 54 [(0, 1), (1, 1)] := ⟨_, Try.underlying54, by kernel_rfl⟩
theorem ti54 : TI Try.prog 54 (.agg #[.slice none 0 0, .int .i64 0]) 2 32 := TI.of (by kernel_rfl)
theorem fa54_1 : FA Try.prog 54 1 1 := ⟨_, _, Try.underlying54, rfl, rfl, by kernel_rfl⟩
theorem ty3 : Ty Try.prog 3 (Rep.int .i64) := ⟨⟨_, Try.underlying3, rfl⟩, by kernel_rfl, (fun _ => rfl)⟩
theorem fa54_0 : FA Try.prog 54 0 0 := ⟨_, _, Try.underlying54, rfl, rfl, by kernel_rfl⟩
theorem ty23 : Ty Try.prog 23 (Rep.slice (Rep.int .i64)) := ⟨⟨_, Try.underlying23, rfl⟩, by kernel_rfl, (fun _ => rfl)⟩
theorem ti56 : TI Try.prog 56 (.agg #[.int .u8 0, .int .u8 0, .int .u8 0, .int .u8 0, .int .u8 0, .int .u8 0, .int .u8 0, .int .u8 0]) 8 8 := TI.of (by kernel_rfl)
theorem ty56 : Ty Try.prog 56 (Rep.arr 8 (Rep.int .u8)) := ⟨⟨_, Try.underlying56, rfl⟩, by kernel_rfl, (fun h => Bool.noConfusion h)⟩
theorem ti22 : TI Try.prog 22 (.slice none 0 0) 1 24 := TI.of (by kernel_rfl)
theorem rd5 : Rd Try.prog 5 (.int .u8) (okI .u8) := Rd.int Try.underlying5
theorem rd22 : Rd Try.prog 22 (Rep.slice (Rep.int .u8)) (okL (okI .u8)) := Rd.slice Try.underlying22 (by kernel_rfl) rfl rd5
theorem rd30 : Rd Try.prog 30 Frame_.rep Frame_.ok := Rd.struct _ (fun p => ⟨p.1, p.2.1, p.2.2.1⟩) (fun _ => rfl) Try.underlying30 (by kernel_rfl) (.cons rfl (by kernel_rfl) rd5 (.cons rfl (by kernel_rfl) rd5 (.cons rfl (by kernel_rfl) rd22 .nil)))
theorem rd3 : Rd Try.prog 3 (.int .i64) (okI .i64) := Rd.int Try.underlying3
theorem rd23 : Rd Try.prog 23 (Rep.slice (Rep.int .i64)) (okL (okI .i64)) := Rd.slice Try.underlying23 (by kernel_rfl) rfl rd3
theorem rd54 : Rd Try.prog 54 made_Dice.rep made_Dice.ok := Rd.struct _ (fun p => ⟨p.1, p.2.1⟩) (fun _ => rfl) Try.underlying54 (by kernel_rfl) (.cons rfl (by kernel_rfl) rd23 (.cons rfl (by kernel_rfl) rd3 .nil))
end Lift
