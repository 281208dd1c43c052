/- What the walks ask of the table of types. Written by lift.py. -/
import Derived.Test.YtgfioeiebfponaaPlain
import Derived.Test.YtgfioeiebfponaaChecked
set_option linter.unusedVariables false
set_option linter.unusedSimpArgs false
namespace Lift
open Go Go.Proofs
theorem ti28 : TI Try.prog 28 (.agg #[.int .i64 0, .int .i64 0, .slice none 0 0, .slice none 0 0]) 4 64 := TI.of (by kernel_rfl)
theorem pl28 : PL Try.prog 28 [(0, 1), (1, 1), (2, 1), (3, 1)] := ⟨_, Try.underlying28, by kernel_rfl⟩
theorem ty28 : Ty Try.prog 28 Download_.rep := ⟨⟨_, Try.underlying28, rfl⟩, by kernel_rfl, (fun h => Bool.noConfusion h)⟩
theorem ti4 : TI Try.prog 4 (.bool false) 1 1 := TI.of (by kernel_rfl)
theorem ti5 : TI Try.prog 5 (.int .u8 0) 1 1 := TI.of (by kernel_rfl)
theorem Try_mixed : Try.prog.follows .mixedOrders = true := Try.checked.mixed
theorem fa28_1 : FA Try.prog 28 1 1 := ⟨_, _, Try.underlying28, rfl, rfl, by kernel_rfl⟩
theorem ty3 : Ty Try.prog 3 (Rep.int .i64) := ⟨⟨_, Try.underlying3, rfl⟩, by kernel_rfl, (fun _ => rfl)⟩
theorem fa28_0 : FA Try.prog 28 0 0 := ⟨_, _, Try.underlying28, rfl, rfl, by kernel_rfl⟩
theorem fa28_3 : FA Try.prog 28 3 3 := ⟨_, _, Try.underlying28, rfl, rfl, by kernel_rfl⟩
theorem ty22 : Ty Try.prog 22 (Rep.slice (Rep.int .u8)) := ⟨⟨_, Try.underlying22, rfl⟩, by kernel_rfl, (fun _ => rfl)⟩
theorem ty5 : Ty Try.prog 5 (Rep.int .u8) := ⟨⟨_, Try.underlying5, rfl⟩, by kernel_rfl, (fun _ => rfl)⟩
theorem fa28_2 : FA Try.prog 28 2 2 := ⟨_, _, Try.underlying28, rfl, rfl, by kernel_rfl⟩
theorem ty26 : Ty Try.prog 26 (Rep.slice Rep.bool) := ⟨⟨_, Try.underlying26, rfl⟩, by kernel_rfl, (fun _ => rfl)⟩
theorem ty4 : Ty Try.prog 4 Rep.bool := ⟨⟨_, Try.underlying4, rfl⟩, by kernel_rfl, (fun _ => rfl)⟩
theorem ti3 : TI Try.prog 3 (.int .i64 0) 1 8 := TI.of (by kernel_rfl)
theorem pl51 : PL Try.prog 51 [(0, 1), (1, 1)] := ⟨_, Try.underlying51, by kernel_rfl⟩
theorem ti51 : TI Try.prog 51 (.agg #[.slice none 0 0, .int .i64 0]) 2 32 := TI.of (by kernel_rfl)
theorem fa51_1 : FA Try.prog 51 1 1 := ⟨_, _, Try.underlying51, rfl, rfl, by kernel_rfl⟩
theorem fa51_0 : FA Try.prog 51 0 0 := ⟨_, _, Try.underlying51, rfl, rfl, by kernel_rfl⟩
theorem rd3 : Rd Try.prog 3 (.int .i64) (okI .i64) := Rd.int Try.underlying3
theorem rd4 : Rd Try.prog 4 .bool (fun _ => True) := Rd.bool Try.underlying4
theorem rd26 : Rd Try.prog 26 (Rep.slice Rep.bool) (okL (fun (_ : Bool) => True)) := Rd.slice Try.underlying26 (by kernel_rfl) rfl rd4
theorem rd5 : Rd Try.prog 5 (.int .u8) (okI .u8) := Rd.int Try.underlying5
theorem rd22 : Rd Try.prog 22 (Rep.slice (Rep.int .u8)) (okL (okI .u8)) := Rd.slice Try.underlying22 (by kernel_rfl) rfl rd5
theorem rd28 : Rd Try.prog 28 Download_.rep Download_.ok := Rd.struct _ (fun p => ⟨p.1, p.2.1, p.2.2.1, p.2.2.2.1⟩) (fun _ => rfl) Try.underlying28 (by kernel_rfl) (.cons rfl (by kernel_rfl) rd3 (.cons rfl (by kernel_rfl) rd3 (.cons rfl (by kernel_rfl) rd26 (.cons rfl (by kernel_rfl) rd22 .nil))))
theorem rd51 : Rd Try.prog 51 field_Codes.rep field_Codes.ok := Rd.struct _ (fun p => ⟨p.1, p.2.1⟩) (fun _ => rfl) Try.underlying51 (by kernel_rfl) (.cons rfl (by kernel_rfl) rd22 (.cons rfl (by kernel_rfl) rd3 .nil))
end Lift
