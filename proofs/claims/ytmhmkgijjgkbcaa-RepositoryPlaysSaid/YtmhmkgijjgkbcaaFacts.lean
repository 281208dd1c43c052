/- What the walks ask of the table of types. Written by lift.py. -/
import Derived.Test.YtmhmkgijjgkbcaaPlain
import Derived.Test.YtmhmkgijjgkbcaaChecked
set_option linter.unusedVariables false
set_option linter.unusedSimpArgs false
namespace Lift
open Go Go.Proofs
theorem pl65 : PL Try.prog 65 [(0, 1), (1, 1), (2, 1), (3, 1), (4, 1)] := ⟨_, Try.underlying65, by kernel_rfl⟩
theorem ti65 : TI Try.prog 65 (.agg #[.int .i64 0, .slice none 0 0, .int .u16 0, .int .u16 0, .bool false]) 5 40 := TI.of (by kernel_rfl)
theorem fa65_0 : FA Try.prog 65 0 0 := ⟨_, _, Try.underlying65, rfl, rfl, by kernel_rfl⟩
theorem ty3 : Ty Try.prog 3 (Rep.int .i64) := ⟨⟨_, Try.underlying3, rfl⟩, by kernel_rfl, (fun _ => rfl)⟩
theorem fa65_1 : FA Try.prog 65 1 1 := ⟨_, _, Try.underlying65, rfl, rfl, by kernel_rfl⟩
theorem ty63 : Ty Try.prog 63 (Rep.slice repository_record.rep) := ⟨⟨_, Try.underlying63, rfl⟩, by kernel_rfl, (fun _ => rfl)⟩
theorem ty67 : Ty Try.prog 67 repository_record.rep := ⟨⟨_, Try.underlying67, rfl⟩, by kernel_rfl, (fun h => Bool.noConfusion h)⟩
theorem ti67 : TI Try.prog 67 (.agg #[.int .u16 0, .slice none 0 0]) 2 32 := TI.of (by kernel_rfl)
theorem fa67_1 : FA Try.prog 67 1 1 := ⟨_, _, Try.underlying67, rfl, rfl, by kernel_rfl⟩
theorem ty34 : Ty Try.prog 34 (Rep.slice (Rep.int .u8)) := ⟨⟨_, Try.underlying34, rfl⟩, by kernel_rfl, (fun _ => rfl)⟩
theorem fa67_0 : FA Try.prog 67 0 0 := ⟨_, _, Try.underlying67, rfl, rfl, by kernel_rfl⟩
theorem ty32 : Ty Try.prog 32 (Rep.int .u16) := ⟨⟨_, Try.underlying32, rfl⟩, by kernel_rfl, (fun _ => rfl)⟩
theorem ti5 : TI Try.prog 5 (.int .u8 0) 1 1 := TI.of (by kernel_rfl)
theorem fa65_2 : FA Try.prog 65 2 2 := ⟨_, _, Try.underlying65, rfl, rfl, by kernel_rfl⟩
theorem pl67 : PL Try.prog 67 [(0, 1), (1, 1)] := ⟨_, Try.underlying67, by kernel_rfl⟩
theorem Try_mixed : Try.prog.follows .mixedOrders = true := Try.checked.mixed
theorem fa65_4 : FA Try.prog 65 4 4 := ⟨_, _, Try.underlying65, rfl, rfl, by kernel_rfl⟩
theorem ty4 : Ty Try.prog 4 Rep.bool := ⟨⟨_, Try.underlying4, rfl⟩, by kernel_rfl, (fun _ => rfl)⟩
theorem fa65_3 : FA Try.prog 65 3 3 := ⟨_, _, Try.underlying65, rfl, rfl, by kernel_rfl⟩
theorem ty5 : Ty Try.prog 5 (Rep.int .u8) := ⟨⟨_, Try.underlying5, rfl⟩, by kernel_rfl, (fun _ => rfl)⟩
theorem pl79 : PL Try.prog 79 [(0, 1), (1, 1)] := ⟨_, Try.underlying79, by kernel_rfl⟩
theorem ti79 : TI Try.prog 79 (.agg #[.slice none 0 0, .int .i64 0]) 2 32 := TI.of (by kernel_rfl)
theorem fa79_1 : FA Try.prog 79 1 1 := ⟨_, _, Try.underlying79, rfl, rfl, by kernel_rfl⟩
theorem fa79_0 : FA Try.prog 79 0 0 := ⟨_, _, Try.underlying79, rfl, rfl, by kernel_rfl⟩
theorem ty22 : Ty Try.prog 22 (Rep.slice (Rep.int .i64)) := ⟨⟨_, Try.underlying22, rfl⟩, by kernel_rfl, (fun _ => rfl)⟩
theorem ti83 : TI Try.prog 83 (.agg #[.int .u8 0, .int .u8 0, .int .u8 0, .int .u8 0, .int .u8 0, .int .u8 0, .int .u8 0, .int .u8 0]) 8 8 := TI.of (by kernel_rfl)
theorem ty83 : Ty Try.prog 83 (Rep.arr 8 (Rep.int .u8)) := ⟨⟨_, Try.underlying83, rfl⟩, by kernel_rfl, (fun h => Bool.noConfusion h)⟩
theorem ti34 : TI Try.prog 34 (.slice none 0 0) 1 24 := TI.of (by kernel_rfl)
theorem ti32 : TI Try.prog 32 (.int .u16 0) 1 2 := TI.of (by kernel_rfl)
theorem ty56 : Ty Try.prog 56 law11_Do.rep := ⟨⟨_, Try.underlying56, rfl⟩, by kernel_rfl, (fun h => Bool.noConfusion h)⟩
theorem fa56_6 : FA Try.prog 56 6 6 := ⟨_, _, Try.underlying56, rfl, rfl, by kernel_rfl⟩
theorem pl74 : PL Try.prog 74 [(0, 1), (1, 1), (2, 1), (3, 1), (4, 1)] := ⟨_, Try.underlying74, by kernel_rfl⟩
theorem ti74 : TI Try.prog 74 (.agg #[.int .i64 0, .slice none 0 0, .int .i64 0, .bool false, .int .i64 0]) 5 56 := TI.of (by kernel_rfl)
theorem fa74_0 : FA Try.prog 74 0 0 := ⟨_, _, Try.underlying74, rfl, rfl, by kernel_rfl⟩
theorem fa74_1 : FA Try.prog 74 1 1 := ⟨_, _, Try.underlying74, rfl, rfl, by kernel_rfl⟩
theorem ty72 : Ty Try.prog 72 (Rep.slice ref11_Item.rep) := ⟨⟨_, Try.underlying72, rfl⟩, by kernel_rfl, (fun _ => rfl)⟩
theorem ty76 : Ty Try.prog 76 ref11_Item.rep := ⟨⟨_, Try.underlying76, rfl⟩, by kernel_rfl, (fun h => Bool.noConfusion h)⟩
theorem fa76_1 : FA Try.prog 76 1 1 := ⟨_, _, Try.underlying76, rfl, rfl, by kernel_rfl⟩
theorem fa76_0 : FA Try.prog 76 0 0 := ⟨_, _, Try.underlying76, rfl, rfl, by kernel_rfl⟩
theorem fa74_4 : FA Try.prog 74 4 4 := ⟨_, _, Try.underlying74, rfl, rfl, by kernel_rfl⟩
theorem pl76 : PL Try.prog 76 [(0, 1), (1, 1)] := ⟨_, Try.underlying76, by kernel_rfl⟩
theorem ti76 : TI Try.prog 76 (.agg #[.int .i64 0, .slice none 0 0]) 2 32 := TI.of (by kernel_rfl)
theorem fa74_3 : FA Try.prog 74 3 3 := ⟨_, _, Try.underlying74, rfl, rfl, by kernel_rfl⟩
theorem fa74_2 : FA Try.prog 74 2 2 := ⟨_, _, Try.underlying74, rfl, rfl, by kernel_rfl⟩
theorem ti56 : TI Try.prog 56 (.agg #[.int .i64 0, .int .i64 0, .int .i64 0, .int .u16 0, .int .u16 0, .bool false, .slice none 0 0]) 7 56 := TI.of (by kernel_rfl)
theorem fa56_5 : FA Try.prog 56 5 5 := ⟨_, _, Try.underlying56, rfl, rfl, by kernel_rfl⟩
theorem fa56_4 : FA Try.prog 56 4 4 := ⟨_, _, Try.underlying56, rfl, rfl, by kernel_rfl⟩
theorem fa56_3 : FA Try.prog 56 3 3 := ⟨_, _, Try.underlying56, rfl, rfl, by kernel_rfl⟩
theorem fa56_0 : FA Try.prog 56 0 0 := ⟨_, _, Try.underlying56, rfl, rfl, by kernel_rfl⟩
theorem fa56_1 : FA Try.prog 56 1 1 := ⟨_, _, Try.underlying56, rfl, rfl, by kernel_rfl⟩
theorem fa56_2 : FA Try.prog 56 2 2 := ⟨_, _, Try.underlying56, rfl, rfl, by kernel_rfl⟩
theorem rd32 : Rd Try.prog 32 (.int .u16) (okI .u16) := Rd.int Try.underlying32
theorem rd5 : Rd Try.prog 5 (.int .u8) (okI .u8) := Rd.int Try.underlying5
theorem rd34 : Rd Try.prog 34 (Rep.slice (Rep.int .u8)) (okL (okI .u8)) := Rd.slice Try.underlying34 (by kernel_rfl) rfl rd5
theorem rd67 : Rd Try.prog 67 repository_record.rep repository_record.ok := Rd.struct _ (fun p => ⟨p.1, p.2.1⟩) (fun _ => rfl) Try.underlying67 (by kernel_rfl) (.cons rfl (by kernel_rfl) rd32 (.cons rfl (by kernel_rfl) rd34 .nil))
theorem rd3 : Rd Try.prog 3 (.int .i64) (okI .i64) := Rd.int Try.underlying3
theorem rd63 : Rd Try.prog 63 (Rep.slice repository_record.rep) (okL repository_record.ok) := Rd.slice Try.underlying63 (by kernel_rfl) rfl rd67
theorem rd4 : Rd Try.prog 4 .bool (fun _ => True) := Rd.bool Try.underlying4
theorem rd65 : Rd Try.prog 65 repository_Repository.rep repository_Repository.ok := Rd.struct _ (fun p => ⟨p.1, p.2.1, p.2.2.1, p.2.2.2.1, p.2.2.2.2.1⟩) (fun _ => rfl) Try.underlying65 (by kernel_rfl) (.cons rfl (by kernel_rfl) rd3 (.cons rfl (by kernel_rfl) rd63 (.cons rfl (by kernel_rfl) rd32 (.cons rfl (by kernel_rfl) rd32 (.cons rfl (by kernel_rfl) rd4 .nil)))))
theorem rd22 : Rd Try.prog 22 (Rep.slice (Rep.int .i64)) (okL (okI .i64)) := Rd.slice Try.underlying22 (by kernel_rfl) rfl rd3
theorem rd79 : Rd Try.prog 79 made_Dice.rep made_Dice.ok := Rd.struct _ (fun p => ⟨p.1, p.2.1⟩) (fun _ => rfl) Try.underlying79 (by kernel_rfl) (.cons rfl (by kernel_rfl) rd22 (.cons rfl (by kernel_rfl) rd3 .nil))
theorem rd56 : Rd Try.prog 56 law11_Do.rep law11_Do.ok := Rd.struct _ (fun p => ⟨p.1, p.2.1, p.2.2.1, p.2.2.2.1, p.2.2.2.2.1, p.2.2.2.2.2.1, p.2.2.2.2.2.2.1⟩) (fun _ => rfl) Try.underlying56 (by kernel_rfl) (.cons rfl (by kernel_rfl) rd3 (.cons rfl (by kernel_rfl) rd3 (.cons rfl (by kernel_rfl) rd3 (.cons rfl (by kernel_rfl) rd32 (.cons rfl (by kernel_rfl) rd32 (.cons rfl (by kernel_rfl) rd4 (.cons rfl (by kernel_rfl) rd34 .nil)))))))
theorem rd76 : Rd Try.prog 76 ref11_Item.rep ref11_Item.ok := Rd.struct _ (fun p => ⟨p.1, p.2.1⟩) (fun _ => rfl) Try.underlying76 (by kernel_rfl) (.cons rfl (by kernel_rfl) rd3 (.cons rfl (by kernel_rfl) rd34 .nil))
theorem rd72 : Rd Try.prog 72 (Rep.slice ref11_Item.rep) (okL ref11_Item.ok) := Rd.slice Try.underlying72 (by kernel_rfl) rfl rd76
theorem rd74 : Rd Try.prog 74 ref11_Repository.rep ref11_Repository.ok := Rd.struct _ (fun p => ⟨p.1, p.2.1, p.2.2.1, p.2.2.2.1, p.2.2.2.2.1⟩) (fun _ => rfl) Try.underlying74 (by kernel_rfl) (.cons rfl (by kernel_rfl) rd3 (.cons rfl (by kernel_rfl) rd72 (.cons rfl (by kernel_rfl) rd3 (.cons rfl (by kernel_rfl) rd4 (.cons rfl (by kernel_rfl) rd3 .nil)))))
theorem rd50 : Rd Try.prog 50 (Rep.slice law11_Do.rep) (okL law11_Do.ok) := Rd.slice Try.underlying50 (by kernel_rfl) rfl rd56
end Lift
