/- What the walks ask of the table of types. Written by lift.py. -/
import Derived.Test.YtkcogjblkenmgaaPlain
import Derived.Test.YtkcogjblkenmgaaChecked
set_option linter.unusedVariables false
set_option linter.unusedSimpArgs false
namespace Lift
open Go Go.Proofs
theorem ti26 : TI Try.prog 26 (.agg #[.int .u8 0, .int .i64 0, .slice none 0 0]) 3 40 := TI.of (by kernel_rfl)
theorem pl26 : PL Try.prog 26 [(0, 1), (1, 1), (2, 1)] := ⟨_, Try.underlying26, by kernel_rfl⟩
theorem ty26 : Ty Try.prog 26 Requester_.rep := ⟨⟨_, Try.underlying26, rfl⟩, by kernel_rfl, (fun h => Bool.noConfusion h)⟩
theorem fa51_2 : FA Try.prog 51 2 2 := ⟨_, _, Try.underlying51, rfl, rfl, by kernel_rfl⟩
theorem ty5 : Ty Try.prog 5 (Rep.int .u8) := ⟨⟨_, Try.underlying5, rfl⟩, by kernel_rfl, (fun _ => rfl)⟩
theorem fa51_0 : FA Try.prog 51 0 0 := ⟨_, _, Try.underlying51, rfl, rfl, by kernel_rfl⟩
theorem fa51_1 : FA Try.prog 51 1 1 := ⟨_, _, Try.underlying51, rfl, rfl, by kernel_rfl⟩
theorem fa51_4 : FA Try.prog 51 4 4 := ⟨_, _, Try.underlying51, rfl, rfl, by kernel_rfl⟩
theorem ty3 : Ty Try.prog 3 (Rep.int .i64) := ⟨⟨_, Try.underlying3, rfl⟩, by kernel_rfl, (fun _ => rfl)⟩
theorem fa51_5 : FA Try.prog 51 5 5 := ⟨_, _, Try.underlying51, rfl, rfl, by kernel_rfl⟩
theorem fa51_6 : FA Try.prog 51 6 6 := ⟨_, _, Try.underlying51, rfl, rfl, by kernel_rfl⟩
theorem fa51_8 : FA Try.prog 51 8 8 := ⟨_, _, Try.underlying51, rfl, rfl, by kernel_rfl⟩
theorem ty22 : Ty Try.prog 22 (Rep.slice (Rep.int .u8)) := ⟨⟨_, Try.underlying22, rfl⟩, by kernel_rfl, (fun _ => rfl)⟩
theorem ty51 : Ty Try.prog 51 Message_.rep := ⟨⟨_, Try.underlying51, rfl⟩, by kernel_rfl, (fun h => Bool.noConfusion h)⟩
theorem fa51_7 : FA Try.prog 51 7 7 := ⟨_, _, Try.underlying51, rfl, rfl, by kernel_rfl⟩
theorem ti5 : TI Try.prog 5 (.int .u8 0) 1 1 := TI.of (by kernel_rfl)
theorem fa51_3 : FA Try.prog 51 3 3 := ⟨_, _, Try.underlying51, rfl, rfl, by kernel_rfl⟩
theorem fa26_0 : FA Try.prog 26 0 0 := ⟨_, _, Try.underlying26, rfl, rfl, by kernel_rfl⟩
theorem fa26_1 : FA Try.prog 26 1 1 := ⟨_, _, Try.underlying26, rfl, rfl, by kernel_rfl⟩
theorem fa26_2 : FA Try.prog 26 2 2 := ⟨_, _, Try.underlying26, rfl, rfl, by kernel_rfl⟩
theorem ty24 : Ty Try.prog 24 (Rep.slice Pending_.rep) := ⟨⟨_, Try.underlying24, rfl⟩, by kernel_rfl, (fun _ => rfl)⟩
theorem ty55 : Ty Try.prog 55 Pending_.rep := ⟨⟨_, Try.underlying55, rfl⟩, by kernel_rfl, (fun h => Bool.noConfusion h)⟩
theorem ti55 : TI Try.prog 55 (.agg #[.int .u8 0, .int .u8 0, .int .u8 0, .int .u8 0, .int .i64 0, .int .i64 0, .int .i64 0, .int .u8 0, .slice none 0 0, .int .i64 0, .int .i64 0]) 11 80 := TI.of (by kernel_rfl)
theorem fa55_2 : FA Try.prog 55 2 10 := ⟨_, _, Try.underlying55, rfl, rfl, by kernel_rfl⟩
theorem fa55_1 : FA Try.prog 55 1 9 := ⟨_, _, Try.underlying55, rfl, rfl, by kernel_rfl⟩
theorem ty2 : Ty Try.prog 2 (Rep.int .i64) := ⟨⟨_, Try.underlying2, rfl⟩, by kernel_rfl, (fun _ => rfl)⟩
theorem fa55_0 : FA Try.prog 55 0 0 := ⟨_, _, Try.underlying55, rfl, rfl, by kernel_rfl⟩
theorem ti51 : TI Try.prog 51 (.agg #[.int .u8 0, .int .u8 0, .int .u8 0, .int .u8 0, .int .i64 0, .int .i64 0, .int .i64 0, .int .u8 0, .slice none 0 0]) 9 64 := TI.of (by kernel_rfl)
theorem pl51 : PL Try.prog 51 [(0, 1), (1, 1), (2, 1), (3, 1), (4, 1), (5, 1), (6, 1), (7, 1), (8, 1)] := ⟨_, Try.underlying51, by kernel_rfl⟩
theorem pl55 : PL Try.prog 55 [(0, 9), (9, 1), (10, 1)] := ⟨_, Try.underlying55, by kernel_rfl⟩
theorem ti22 : TI Try.prog 22 (.slice none 0 0) 1 24 := TI.of (by kernel_rfl)
theorem ti2 : TI Try.prog 2 (.int .i64 0) 1 8 := TI.of (by kernel_rfl)
theorem pl72 : PL Try.prog 72 [(0, 1), (1, 1)] := ⟨_, Try.underlying72, by kernel_rfl⟩
theorem ti72 : TI Try.prog 72 (.agg #[.slice none 0 0, .int .i64 0]) 2 32 := TI.of (by kernel_rfl)
theorem fa72_1 : FA Try.prog 72 1 1 := ⟨_, _, Try.underlying72, rfl, rfl, by kernel_rfl⟩
theorem fa72_0 : FA Try.prog 72 0 0 := ⟨_, _, Try.underlying72, rfl, rfl, by kernel_rfl⟩
theorem Try_mixed : Try.prog.follows .mixedOrders = true := Try.checked.mixed
theorem fd26_2 : FD Try.prog 26 2 2 24 := ⟨_, _, Try.underlying26, rfl, rfl, rfl⟩
theorem ti3 : TI Try.prog 3 (.int .i64 0) 1 8 := TI.of (by kernel_rfl)
theorem ty4 : Ty Try.prog 4 Rep.bool := ⟨⟨_, Try.underlying4, rfl⟩, by kernel_rfl, (fun _ => rfl)⟩
theorem rd5 : Rd Try.prog 5 (.int .u8) (okI .u8) := Rd.int Try.underlying5
theorem rd3 : Rd Try.prog 3 (.int .i64) (okI .i64) := Rd.int Try.underlying3
theorem rd22 : Rd Try.prog 22 (Rep.slice (Rep.int .u8)) (okL (okI .u8)) := Rd.slice Try.underlying22 (by kernel_rfl) rfl rd5
theorem rd51 : Rd Try.prog 51 Message_.rep Message_.ok := Rd.struct _ (fun p => ⟨p.1, p.2.1, p.2.2.1, p.2.2.2.1, p.2.2.2.2.1, p.2.2.2.2.2.1, p.2.2.2.2.2.2.1, p.2.2.2.2.2.2.2.1, p.2.2.2.2.2.2.2.2.1⟩) (fun _ => rfl) Try.underlying51 (by kernel_rfl) (.cons rfl (by kernel_rfl) rd5 (.cons rfl (by kernel_rfl) rd5 (.cons rfl (by kernel_rfl) rd5 (.cons rfl (by kernel_rfl) rd5 (.cons rfl (by kernel_rfl) rd3 (.cons rfl (by kernel_rfl) rd3 (.cons rfl (by kernel_rfl) rd3 (.cons rfl (by kernel_rfl) rd5 (.cons rfl (by kernel_rfl) rd22 .nil)))))))))
theorem rd2 : Rd Try.prog 2 (.int .i64) (okI .i64) := Rd.int Try.underlying2
theorem rd55 : Rd Try.prog 55 Pending_.rep Pending_.ok := Rd.struct _ (fun p => ⟨p.1, p.2.1, p.2.2.1⟩) (fun _ => rfl) Try.underlying55 (by kernel_rfl) (.cons rfl (by kernel_rfl) rd51 (.cons rfl (by kernel_rfl) rd2 (.cons rfl (by kernel_rfl) rd3 .nil)))
theorem rd24 : Rd Try.prog 24 (Rep.slice Pending_.rep) (okL Pending_.ok) := Rd.slice Try.underlying24 (by kernel_rfl) rfl rd55
theorem rd26 : Rd Try.prog 26 Requester_.rep Requester_.ok := Rd.struct _ (fun p => ⟨p.1, p.2.1, p.2.2.1⟩) (fun _ => rfl) Try.underlying26 (by kernel_rfl) (.cons rfl (by kernel_rfl) rd5 (.cons rfl (by kernel_rfl) rd3 (.cons rfl (by kernel_rfl) rd24 .nil)))
theorem rd72 : Rd Try.prog 72 field_Codes.rep field_Codes.ok := Rd.struct _ (fun p => ⟨p.1, p.2.1⟩) (fun _ => rfl) Try.underlying72 (by kernel_rfl) (.cons rfl (by kernel_rfl) rd22 (.cons rfl (by kernel_rfl) rd3 .nil))
end Lift
