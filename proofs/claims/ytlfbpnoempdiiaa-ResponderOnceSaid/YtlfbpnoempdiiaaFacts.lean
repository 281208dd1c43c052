/- What the walks ask of the table of types. Written by lift.py. -/
import Derived.Test.YtlfbpnoempdiiaaPlain
import Derived.Test.YtlfbpnoempdiiaaChecked
set_option linter.unusedVariables false
set_option linter.unusedSimpArgs false
namespace Lift
open Go Go.Proofs
theorem ti29 : TI Try.prog 29 (.agg #[.int .u8 0, .slice none 0 0, .slice none 0 0]) 3 56 := TI.of (by kernel_rfl)
theorem pl29 : PL Try.prog 29 [(0, 1), (1, 1), (2, 1)] := ⟨_, Try.underlying29, by kernel_rfl⟩
theorem ty29 : Ty Try.prog 29 Responder_.rep := ⟨⟨_, Try.underlying29, rfl⟩, by kernel_rfl, (fun h => Bool.noConfusion h)⟩
theorem fa37_2 : FA Try.prog 37 2 2 := ⟨_, _, Try.underlying37, rfl, rfl, by kernel_rfl⟩
theorem ty5 : Ty Try.prog 5 (Rep.int .u8) := ⟨⟨_, Try.underlying5, rfl⟩, by kernel_rfl, (fun _ => rfl)⟩
theorem fa37_0 : FA Try.prog 37 0 0 := ⟨_, _, Try.underlying37, rfl, rfl, by kernel_rfl⟩
theorem fa37_1 : FA Try.prog 37 1 1 := ⟨_, _, Try.underlying37, rfl, rfl, by kernel_rfl⟩
theorem fa37_4 : FA Try.prog 37 4 4 := ⟨_, _, Try.underlying37, rfl, rfl, by kernel_rfl⟩
theorem ty3 : Ty Try.prog 3 (Rep.int .i64) := ⟨⟨_, Try.underlying3, rfl⟩, by kernel_rfl, (fun _ => rfl)⟩
theorem fa37_5 : FA Try.prog 37 5 5 := ⟨_, _, Try.underlying37, rfl, rfl, by kernel_rfl⟩
theorem fa37_6 : FA Try.prog 37 6 6 := ⟨_, _, Try.underlying37, rfl, rfl, by kernel_rfl⟩
theorem fa37_8 : FA Try.prog 37 8 8 := ⟨_, _, Try.underlying37, rfl, rfl, by kernel_rfl⟩
theorem ty22 : Ty Try.prog 22 (Rep.slice (Rep.int .u8)) := ⟨⟨_, Try.underlying22, rfl⟩, by kernel_rfl, (fun _ => rfl)⟩
theorem ty37 : Ty Try.prog 37 Message_.rep := ⟨⟨_, Try.underlying37, rfl⟩, by kernel_rfl, (fun h => Bool.noConfusion h)⟩
theorem fa37_7 : FA Try.prog 37 7 7 := ⟨_, _, Try.underlying37, rfl, rfl, by kernel_rfl⟩
theorem ti5 : TI Try.prog 5 (.int .u8 0) 1 1 := TI.of (by kernel_rfl)
theorem fa37_3 : FA Try.prog 37 3 3 := ⟨_, _, Try.underlying37, rfl, rfl, by kernel_rfl⟩
theorem ti37 : TI Try.prog 37 (.agg #[.int .u8 0, .int .u8 0, .int .u8 0, .int .u8 0, .int .i64 0, .int .i64 0, .int .i64 0, .int .u8 0, .slice none 0 0]) 9 64 := TI.of (by kernel_rfl)
theorem pl37 : PL Try.prog 37 [(0, 1), (1, 1), (2, 1), (3, 1), (4, 1), (5, 1), (6, 1), (7, 1), (8, 1)] := ⟨_, Try.underlying37, by kernel_rfl⟩
theorem Try_mixed : Try.prog.follows .mixedOrders = true := Try.checked.mixed
theorem fa69_0 : FA Try.prog 69 0 0 := ⟨_, _, Try.underlying69, rfl, rfl, by kernel_rfl⟩
theorem fa69_1 : FA Try.prog 69 1 1 := ⟨_, _, Try.underlying69, rfl, rfl, by kernel_rfl⟩
theorem fa69_2 : FA Try.prog 69 2 2 := ⟨_, _, Try.underlying69, rfl, rfl, by kernel_rfl⟩
theorem fa69_3 : FA Try.prog 69 3 3 := ⟨_, _, Try.underlying69, rfl, rfl, by kernel_rfl⟩
theorem fa69_4 : FA Try.prog 69 4 4 := ⟨_, _, Try.underlying69, rfl, rfl, by kernel_rfl⟩
theorem fa69_5 : FA Try.prog 69 5 5 := ⟨_, _, Try.underlying69, rfl, rfl, by kernel_rfl⟩
theorem fa69_6 : FA Try.prog 69 6 6 := ⟨_, _, Try.underlying69, rfl, rfl, by kernel_rfl⟩
theorem fa69_8 : FA Try.prog 69 8 8 := ⟨_, _, Try.underlying69, rfl, rfl, by kernel_rfl⟩
theorem fa29_0 : FA Try.prog 29 0 0 := ⟨_, _, Try.underlying29, rfl, rfl, by kernel_rfl⟩
theorem fa29_1 : FA Try.prog 29 1 1 := ⟨_, _, Try.underlying29, rfl, rfl, by kernel_rfl⟩
theorem ty26 : Ty Try.prog 26 (Rep.slice Message_.rep) := ⟨⟨_, Try.underlying26, rfl⟩, by kernel_rfl, (fun _ => rfl)⟩
theorem fa29_2 : FA Try.prog 29 2 2 := ⟨_, _, Try.underlying29, rfl, rfl, by kernel_rfl⟩
theorem ty27 : Ty Try.prog 27 (Rep.slice Memory_.rep) := ⟨⟨_, Try.underlying27, rfl⟩, by kernel_rfl, (fun _ => rfl)⟩
theorem ty72 : Ty Try.prog 72 Memory_.rep := ⟨⟨_, Try.underlying72, rfl⟩, by kernel_rfl, (fun h => Bool.noConfusion h)⟩
theorem ti72 : TI Try.prog 72 (.agg #[.int .u8 0, .int .u8 0, .int .u8 0, .int .u8 0, .int .i64 0, .int .i64 0, .int .i64 0, .int .u8 0, .slice none 0 0, .slice none 0 0, .int .i64 0]) 11 96 := TI.of (by kernel_rfl)
theorem fa72_1 : FA Try.prog 72 1 9 := ⟨_, _, Try.underlying72, rfl, rfl, by kernel_rfl⟩
theorem fa72_2 : FA Try.prog 72 2 10 := ⟨_, _, Try.underlying72, rfl, rfl, by kernel_rfl⟩
theorem ty2 : Ty Try.prog 2 (Rep.int .i64) := ⟨⟨_, Try.underlying2, rfl⟩, by kernel_rfl, (fun _ => rfl)⟩
theorem fa72_0 : FA Try.prog 72 0 0 := ⟨_, _, Try.underlying72, rfl, rfl, by kernel_rfl⟩
theorem ti66 : TI Try.prog 66 (.nilFunc) 1 8 := TI.of (by kernel_rfl)
theorem tyf66 {v : Value} : Ty Try.prog 66 (Rep.raw (α := Unit) v) := ⟨⟨_, Try.underlying66, rfl⟩, by kernel_rfl, fun _ => rfl⟩
theorem pl72 : PL Try.prog 72 [(0, 9), (9, 1), (10, 1)] := ⟨_, Try.underlying72, by kernel_rfl⟩
theorem pl64 : PL Try.prog 64 [(0, 1), (1, 1)] := ⟨_, Try.underlying64, by kernel_rfl⟩
theorem ti64 : TI Try.prog 64 (.agg #[.slice none 0 0, .int .i64 0]) 2 32 := TI.of (by kernel_rfl)
theorem fa64_1 : FA Try.prog 64 1 1 := ⟨_, _, Try.underlying64, rfl, rfl, by kernel_rfl⟩
theorem fa64_0 : FA Try.prog 64 0 0 := ⟨_, _, Try.underlying64, rfl, rfl, by kernel_rfl⟩
theorem ti9 : TI Try.prog 9 (.string ⟨#[]⟩) 1 16 := TI.of (by kernel_rfl)
theorem ti3 : TI Try.prog 3 (.int .i64 0) 1 8 := TI.of (by kernel_rfl)
theorem ti22 : TI Try.prog 22 (.slice none 0 0) 1 24 := TI.of (by kernel_rfl)
theorem ti2 : TI Try.prog 2 (.int .i64 0) 1 8 := TI.of (by kernel_rfl)
theorem rd5 : Rd Try.prog 5 (.int .u8) (okI .u8) := Rd.int Try.underlying5
theorem rd3 : Rd Try.prog 3 (.int .i64) (okI .i64) := Rd.int Try.underlying3
theorem rd22 : Rd Try.prog 22 (Rep.slice (Rep.int .u8)) (okL (okI .u8)) := Rd.slice Try.underlying22 (by kernel_rfl) rfl rd5
theorem rd37 : Rd Try.prog 37 Message_.rep Message_.ok := Rd.struct _ (fun p => ⟨p.1, p.2.1, p.2.2.1, p.2.2.2.1, p.2.2.2.2.1, p.2.2.2.2.2.1, p.2.2.2.2.2.2.1, p.2.2.2.2.2.2.2.1, p.2.2.2.2.2.2.2.2.1⟩) (fun _ => rfl) Try.underlying37 (by kernel_rfl) (.cons rfl (by kernel_rfl) rd5 (.cons rfl (by kernel_rfl) rd5 (.cons rfl (by kernel_rfl) rd5 (.cons rfl (by kernel_rfl) rd5 (.cons rfl (by kernel_rfl) rd3 (.cons rfl (by kernel_rfl) rd3 (.cons rfl (by kernel_rfl) rd3 (.cons rfl (by kernel_rfl) rd5 (.cons rfl (by kernel_rfl) rd22 .nil)))))))))
theorem rd2 : Rd Try.prog 2 (.int .i64) (okI .i64) := Rd.int Try.underlying2
theorem rd72 : Rd Try.prog 72 Memory_.rep Memory_.ok := Rd.struct _ (fun p => ⟨p.1, p.2.1, p.2.2.1⟩) (fun _ => rfl) Try.underlying72 (by kernel_rfl) (.cons rfl (by kernel_rfl) rd37 (.cons rfl (by kernel_rfl) rd22 (.cons rfl (by kernel_rfl) rd2 .nil)))
theorem rd26 : Rd Try.prog 26 (Rep.slice Message_.rep) (okL Message_.ok) := Rd.slice Try.underlying26 (by kernel_rfl) rfl rd37
theorem rd27 : Rd Try.prog 27 (Rep.slice Memory_.rep) (okL Memory_.ok) := Rd.slice Try.underlying27 (by kernel_rfl) rfl rd72
theorem rd29 : Rd Try.prog 29 Responder_.rep Responder_.ok := Rd.struct _ (fun p => ⟨p.1, p.2.1, p.2.2.1⟩) (fun _ => rfl) Try.underlying29 (by kernel_rfl) (.cons rfl (by kernel_rfl) rd5 (.cons rfl (by kernel_rfl) rd26 (.cons rfl (by kernel_rfl) rd27 .nil)))
theorem rd64 : Rd Try.prog 64 field_Codes.rep field_Codes.ok := Rd.struct _ (fun p => ⟨p.1, p.2.1⟩) (fun _ => rfl) Try.underlying64 (by kernel_rfl) (.cons rfl (by kernel_rfl) rd22 (.cons rfl (by kernel_rfl) rd3 .nil))
end Lift
