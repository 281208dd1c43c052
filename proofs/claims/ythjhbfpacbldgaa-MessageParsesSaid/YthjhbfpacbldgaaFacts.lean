/- What the walks ask of the table of types. Written by lift.py. -/
import Derived.Test.YthjhbfpacbldgaaPlain
import Derived.Test.YthjhbfpacbldgaaChecked
namespace Lift
open Go Go.Proofs
theorem fa24_2 : FA Try.prog 24 2 2 := ⟨_, _, Try.underlying24, rfl, rfl, by kernel_rfl⟩
theorem ty5 : Ty Try.prog 5 (Rep.int .u8) := ⟨⟨_, Try.underlying5, rfl⟩, by kernel_rfl, (fun _ => rfl)⟩
theorem fa24_0 : FA Try.prog 24 0 0 := ⟨_, _, Try.underlying24, rfl, rfl, by kernel_rfl⟩
theorem fa24_1 : FA Try.prog 24 1 1 := ⟨_, _, Try.underlying24, rfl, rfl, by kernel_rfl⟩
theorem fa24_4 : FA Try.prog 24 4 4 := ⟨_, _, Try.underlying24, rfl, rfl, by kernel_rfl⟩
theorem ty3 : Ty Try.prog 3 (Rep.int .i64) := ⟨⟨_, Try.underlying3, rfl⟩, by kernel_rfl, (fun _ => rfl)⟩
theorem fa24_5 : FA Try.prog 24 5 5 := ⟨_, _, Try.underlying24, rfl, rfl, by kernel_rfl⟩
theorem fa24_6 : FA Try.prog 24 6 6 := ⟨_, _, Try.underlying24, rfl, rfl, by kernel_rfl⟩
theorem fa24_8 : FA Try.prog 24 8 8 := ⟨_, _, Try.underlying24, rfl, rfl, by kernel_rfl⟩
theorem ty22 : Ty Try.prog 22 (Rep.slice (Rep.int .u8)) := ⟨⟨_, Try.underlying22, rfl⟩, by kernel_rfl, (fun _ => rfl)⟩
theorem ty24 : Ty Try.prog 24 Message_.rep := ⟨⟨_, Try.underlying24, rfl⟩, by kernel_rfl, (fun h => Bool.noConfusion h)⟩
theorem fa24_7 : FA Try.prog 24 7 7 := ⟨_, _, Try.underlying24, rfl, rfl, by kernel_rfl⟩
theorem ti5 : TI Try.prog 5 (.int .u8 0) 1 1 := TI.of (by kernel_rfl)
theorem fa24_3 : FA Try.prog 24 3 3 := ⟨_, _, Try.underlying24, rfl, rfl, by kernel_rfl⟩
theorem Try_mixed : Try.prog.follows .mixedOrders = true := Try.checked.mixed
theorem pl24 : PL Try.prog 24 [(0, 1), (1, 1), (2, 1), (3, 1), (4, 1), (5, 1), (6, 1), (7, 1), (8, 1)] := ⟨_, Try.underlying24, by kernel_rfl⟩
theorem ti24 : TI Try.prog 24 (.agg #[.int .u8 0, .int .u8 0, .int .u8 0, .int .u8 0, .int .i64 0, .int .i64 0, .int .i64 0, .int .u8 0, .slice none 0 0]) 9 64 := TI.of (by kernel_rfl)
theorem pl77 : PL Try.prog 77 [(0, 1), (1, 1)] := ⟨_, Try.underlying77, by kernel_rfl⟩
theorem ti77 : TI Try.prog 77 (.agg #[.slice none 0 0, .int .i64 0]) 2 32 := TI.of (by kernel_rfl)
theorem fa77_1 : FA Try.prog 77 1 1 := ⟨_, _, Try.underlying77, rfl, rfl, by kernel_rfl⟩
theorem fa77_0 : FA Try.prog 77 0 0 := ⟨_, _, Try.underlying77, rfl, rfl, by kernel_rfl⟩
theorem ty25 : Ty Try.prog 25 (Rep.slice (Rep.int .i64)) := ⟨⟨_, Try.underlying25, rfl⟩, by kernel_rfl, (fun _ => rfl)⟩
theorem ti78 : TI Try.prog 78 (.agg #[.int .u8 0, .int .u8 0, .int .u8 0, .int .u8 0, .int .u8 0, .int .u8 0, .int .u8 0, .int .u8 0]) 8 8 := TI.of (by kernel_rfl)
theorem ty78 : Ty Try.prog 78 (Rep.arr 8 (Rep.int .u8)) := ⟨⟨_, Try.underlying78, rfl⟩, by kernel_rfl, (fun h => Bool.noConfusion h)⟩
theorem ti44 : TI Try.prog 44 (.agg #[.int .u8 0, .int .u8 0, .int .u8 0, .int .u8 0, .int .i64 0, .int .i64 0, .int .i64 0, .int .u8 0, .slice none 0 0, .int .u8 0, .int .u8 0, .int .u8 0, .int .u8 0, .int .i64 0, .int .i64 0, .int .i64 0, .int .u8 0, .slice none 0 0]) 18 128 := TI.of (by kernel_rfl)
theorem ty44 : Ty Try.prog 44 (Rep.arr 2 Message_.rep) := ⟨⟨_, Try.underlying44, rfl⟩, by kernel_rfl, (fun h => Bool.noConfusion h)⟩
theorem ti22 : TI Try.prog 22 (.slice none 0 0) 1 24 := TI.of (by kernel_rfl)
theorem pl88 : PL Try.prog 88 [(0, 1), (1, 1)] := ⟨_, Try.underlying88, by kernel_rfl⟩
theorem ti88 : TI Try.prog 88 (.agg #[.int .u8 0, .slice none 0 0]) 2 32 := TI.of (by kernel_rfl)
theorem fa63_0 : FA Try.prog 63 0 0 := ⟨_, _, Try.underlying63, rfl, rfl, by kernel_rfl⟩
theorem fa63_1 : FA Try.prog 63 1 1 := ⟨_, _, Try.underlying63, rfl, rfl, by kernel_rfl⟩
theorem fa63_4 : FA Try.prog 63 4 4 := ⟨_, _, Try.underlying63, rfl, rfl, by kernel_rfl⟩
theorem fa63_6 : FA Try.prog 63 6 6 := ⟨_, _, Try.underlying63, rfl, rfl, by kernel_rfl⟩
theorem fa63_7 : FA Try.prog 63 7 7 := ⟨_, _, Try.underlying63, rfl, rfl, by kernel_rfl⟩
theorem ty63 : Ty Try.prog 63 Packet_.rep := ⟨⟨_, Try.underlying63, rfl⟩, by kernel_rfl, (fun h => Bool.noConfusion h)⟩
theorem fa63_2 : FA Try.prog 63 2 2 := ⟨_, _, Try.underlying63, rfl, rfl, by kernel_rfl⟩
theorem ty4 : Ty Try.prog 4 Rep.bool := ⟨⟨_, Try.underlying4, rfl⟩, by kernel_rfl, (fun _ => rfl)⟩
theorem pl90 : PL Try.prog 90 [(0, 1), (1, 1)] := ⟨_, Try.underlying90, by kernel_rfl⟩
theorem ti90 : TI Try.prog 90 (.agg #[.bool false, .int .u8 0]) 2 2 := TI.of (by kernel_rfl)
theorem fa63_3 : FA Try.prog 63 3 3 := ⟨_, _, Try.underlying63, rfl, rfl, by kernel_rfl⟩
theorem fa63_5 : FA Try.prog 63 5 5 := ⟨_, _, Try.underlying63, rfl, rfl, by kernel_rfl⟩
theorem ty90 : Ty Try.prog 90 Anon_af38c4.rep := ⟨⟨_, Try.underlying90, rfl⟩, by kernel_rfl, (fun h => Bool.noConfusion h)⟩
theorem fa90_0 : FA Try.prog 90 0 0 := ⟨_, _, Try.underlying90, rfl, rfl, by kernel_rfl⟩
theorem fa90_1 : FA Try.prog 90 1 1 := ⟨_, _, Try.underlying90, rfl, rfl, by kernel_rfl⟩
theorem fa66_0 : FA Try.prog 66 0 0 := ⟨_, _, Try.underlying66, rfl, rfl, by kernel_rfl⟩
theorem fa66_1 : FA Try.prog 66 1 1 := ⟨_, _, Try.underlying66, rfl, rfl, by kernel_rfl⟩
theorem fa66_2 : FA Try.prog 66 2 2 := ⟨_, _, Try.underlying66, rfl, rfl, by kernel_rfl⟩
theorem ty66 : Ty Try.prog 66 Frame_.rep := ⟨⟨_, Try.underlying66, rfl⟩, by kernel_rfl, (fun h => Bool.noConfusion h)⟩
theorem ti66 : TI Try.prog 66 (.agg #[.int .u8 0, .int .u8 0, .slice none 0 0]) 3 32 := TI.of (by kernel_rfl)
theorem pl66 : PL Try.prog 66 [(0, 1), (1, 1), (2, 1)] := ⟨_, Try.underlying66, by kernel_rfl⟩
theorem ti63 : TI Try.prog 63 (.agg #[.int .u8 0, .int .u8 0, .bool false, .bool false, .int .i64 0, .bool false, .int .i64 0, .slice none 0 0]) 8 56 := TI.of (by kernel_rfl)
theorem pl63 : PL Try.prog 63 [(0, 1), (1, 1), (2, 1), (3, 1), (4, 1), (5, 1), (6, 1), (7, 1)] := ⟨_, Try.underlying63, by kernel_rfl⟩
theorem fa88_1 : FA Try.prog 88 1 1 := ⟨_, _, Try.underlying88, rfl, rfl, by kernel_rfl⟩
theorem ty86 : Ty Try.prog 86 (Rep.slice fragment_open.rep) := ⟨⟨_, Try.underlying86, rfl⟩, by kernel_rfl, (fun _ => rfl)⟩
theorem ti72 : TI Try.prog 72 (.agg #[.int .u8 0, .bool false, .int .i64 0, .slice none 0 0]) 4 40 := TI.of (by kernel_rfl)
theorem pl72 : PL Try.prog 72 [(0, 1), (1, 1), (2, 1), (3, 1)] := ⟨_, Try.underlying72, by kernel_rfl⟩
theorem ty72 : Ty Try.prog 72 Whole_.rep := ⟨⟨_, Try.underlying72, rfl⟩, by kernel_rfl, (fun h => Bool.noConfusion h)⟩
theorem fa88_0 : FA Try.prog 88 0 0 := ⟨_, _, Try.underlying88, rfl, rfl, by kernel_rfl⟩
theorem fa99_0 : FA Try.prog 99 0 0 := ⟨_, _, Try.underlying99, rfl, rfl, by kernel_rfl⟩
theorem fa72_0 : FA Try.prog 72 0 0 := ⟨_, _, Try.underlying72, rfl, rfl, by kernel_rfl⟩
theorem rd5 : Rd Try.prog 5 (.int .u8) (okI .u8) := Rd.int Try.underlying5
theorem rd3 : Rd Try.prog 3 (.int .i64) (okI .i64) := Rd.int Try.underlying3
theorem rd22 : Rd Try.prog 22 (Rep.slice (Rep.int .u8)) (okL (okI .u8)) := Rd.slice Try.underlying22 (by kernel_rfl) rfl rd5
theorem rd24 : Rd Try.prog 24 Message_.rep Message_.ok := Rd.struct _ (fun p => ⟨p.1, p.2.1, p.2.2.1, p.2.2.2.1, p.2.2.2.2.1, p.2.2.2.2.2.1, p.2.2.2.2.2.2.1, p.2.2.2.2.2.2.2.1, p.2.2.2.2.2.2.2.2.1⟩) (fun _ => rfl) Try.underlying24 (by kernel_rfl) (.cons rfl (by kernel_rfl) rd5 (.cons rfl (by kernel_rfl) rd5 (.cons rfl (by kernel_rfl) rd5 (.cons rfl (by kernel_rfl) rd5 (.cons rfl (by kernel_rfl) rd3 (.cons rfl (by kernel_rfl) rd3 (.cons rfl (by kernel_rfl) rd3 (.cons rfl (by kernel_rfl) rd5 (.cons rfl (by kernel_rfl) rd22 .nil)))))))))
theorem rd25 : Rd Try.prog 25 (Rep.slice (Rep.int .i64)) (okL (okI .i64)) := Rd.slice Try.underlying25 (by kernel_rfl) rfl rd3
theorem rd77 : Rd Try.prog 77 made_Dice.rep made_Dice.ok := Rd.struct _ (fun p => ⟨p.1, p.2.1⟩) (fun _ => rfl) Try.underlying77 (by kernel_rfl) (.cons rfl (by kernel_rfl) rd25 (.cons rfl (by kernel_rfl) rd3 .nil))
theorem rd4 : Rd Try.prog 4 .bool (fun _ => True) := Rd.bool Try.underlying4
theorem rd72 : Rd Try.prog 72 Whole_.rep Whole_.ok := Rd.struct _ (fun p => ⟨p.1, p.2.1, p.2.2.1, p.2.2.2.1⟩) (fun _ => rfl) Try.underlying72 (by kernel_rfl) (.cons rfl (by kernel_rfl) rd5 (.cons rfl (by kernel_rfl) rd4 (.cons rfl (by kernel_rfl) rd3 (.cons rfl (by kernel_rfl) rd22 .nil))))
theorem rd99 : Rd Try.prog 99 fragment_open.rep fragment_open.ok := Rd.struct _ (fun p => ⟨p.1, p.2.1, p.2.2.1⟩) (fun _ => rfl) Try.underlying99 (by kernel_rfl) (.cons rfl (by kernel_rfl) rd72 (.cons rfl (by kernel_rfl) rd3 (.cons rfl (by kernel_rfl) rd3 .nil)))
theorem rd86 : Rd Try.prog 86 (Rep.slice fragment_open.rep) (okL fragment_open.ok) := Rd.slice Try.underlying86 (by kernel_rfl) rfl rd99
theorem rd88 : Rd Try.prog 88 fragment_Assembler.rep fragment_Assembler.ok := Rd.struct _ (fun p => ⟨p.1, p.2.1⟩) (fun _ => rfl) Try.underlying88 (by kernel_rfl) (.cons rfl (by kernel_rfl) rd5 (.cons rfl (by kernel_rfl) rd86 .nil))
theorem rd63 : Rd Try.prog 63 Packet_.rep Packet_.ok := Rd.struct _ (fun p => ⟨p.1, p.2.1, p.2.2.1, p.2.2.2.1, p.2.2.2.2.1, p.2.2.2.2.2.1, p.2.2.2.2.2.2.1, p.2.2.2.2.2.2.2.1⟩) (fun _ => rfl) Try.underlying63 (by kernel_rfl) (.cons rfl (by kernel_rfl) rd5 (.cons rfl (by kernel_rfl) rd5 (.cons rfl (by kernel_rfl) rd4 (.cons rfl (by kernel_rfl) rd4 (.cons rfl (by kernel_rfl) rd3 (.cons rfl (by kernel_rfl) rd4 (.cons rfl (by kernel_rfl) rd3 (.cons rfl (by kernel_rfl) rd22 .nil))))))))
theorem rd90 : Rd Try.prog 90 Anon_af38c4.rep Anon_af38c4.ok := Rd.struct _ (fun p => ⟨p.1, p.2.1⟩) (fun _ => rfl) Try.underlying90 (by kernel_rfl) (.cons rfl (by kernel_rfl) rd4 (.cons rfl (by kernel_rfl) rd5 .nil))
theorem rd66 : Rd Try.prog 66 Frame_.rep Frame_.ok := Rd.struct _ (fun p => ⟨p.1, p.2.1, p.2.2.1⟩) (fun _ => rfl) Try.underlying66 (by kernel_rfl) (.cons rfl (by kernel_rfl) rd5 (.cons rfl (by kernel_rfl) rd5 (.cons rfl (by kernel_rfl) rd22 .nil)))
end Lift
