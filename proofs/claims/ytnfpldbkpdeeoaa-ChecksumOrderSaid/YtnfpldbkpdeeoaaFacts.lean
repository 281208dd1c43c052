/- What the walks ask of the table of types. Written by lift.py. -/
import Derived.Test.YtnfpldbkpdeeoaaPlain
import Derived.Test.YtnfpldbkpdeeoaaChecked
namespace Lift
open Go Go.Proofs
theorem ty5 : Ty Try.prog 5 (Rep.int .u8) := ⟨⟨_, Try.underlying5, rfl⟩, by kernel_rfl, (fun _ => rfl)⟩
theorem ti5 : TI Try.prog 5 (.int .u8 0) 1 1 := TI.of (by kernel_rfl)
theorem pl49 : PL Try.prog 49 [(0, 1), (1, 1)] := ⟨_, Try.underlying49, by kernel_rfl⟩
theorem ti49 : TI Try.prog 49 (.agg #[.slice none 0 0, .int .i64 0]) 2 32 := TI.of (by kernel_rfl)
theorem fa49_1 : FA Try.prog 49 1 1 := ⟨_, _, Try.underlying49, rfl, rfl, by kernel_rfl⟩
theorem ty3 : Ty Try.prog 3 (Rep.int .i64) := ⟨⟨_, Try.underlying3, rfl⟩, by kernel_rfl, (fun _ => rfl)⟩
theorem fa49_0 : FA Try.prog 49 0 0 := ⟨_, _, Try.underlying49, rfl, rfl, by kernel_rfl⟩
theorem ty28 : Ty Try.prog 28 (Rep.slice (Rep.int .i64)) := ⟨⟨_, Try.underlying28, rfl⟩, by kernel_rfl, (fun _ => rfl)⟩
theorem Try_mixed : Try.prog.follows .mixedOrders = true := Try.checked.mixed
theorem ti50 : TI Try.prog 50 (.agg #[.int .u8 0, .int .u8 0, .int .u8 0, .int .u8 0, .int .u8 0, .int .u8 0, .int .u8 0, .int .u8 0]) 8 8 := TI.of (by kernel_rfl)
theorem ty50 : Ty Try.prog 50 (Rep.arr 8 (Rep.int .u8)) := ⟨⟨_, Try.underlying50, rfl⟩, by kernel_rfl, (fun h => Bool.noConfusion h)⟩
theorem ti4 : TI Try.prog 4 (.bool false) 1 1 := TI.of (by kernel_rfl)
theorem ty4 : Ty Try.prog 4 Rep.bool := ⟨⟨_, Try.underlying4, rfl⟩, by kernel_rfl, (fun _ => rfl)⟩
theorem rd3 : Rd Try.prog 3 (.int .i64) (okI .i64) := Rd.int Try.underlying3
theorem rd28 : Rd Try.prog 28 (Rep.slice (Rep.int .i64)) (okL (okI .i64)) := Rd.slice Try.underlying28 (by kernel_rfl) rfl rd3
theorem rd49 : Rd Try.prog 49 made_Dice.rep made_Dice.ok := Rd.struct _ (fun p => ⟨p.1, p.2.1⟩) (fun _ => rfl) Try.underlying49 (by kernel_rfl) (.cons rfl (by kernel_rfl) rd28 (.cons rfl (by kernel_rfl) rd3 .nil))
theorem rd5 : Rd Try.prog 5 (.int .u8) (okI .u8) := Rd.int Try.underlying5
theorem rd22 : Rd Try.prog 22 (Rep.slice (Rep.int .u8)) (okL (okI .u8)) := Rd.slice Try.underlying22 (by kernel_rfl) rfl rd5
end Lift
