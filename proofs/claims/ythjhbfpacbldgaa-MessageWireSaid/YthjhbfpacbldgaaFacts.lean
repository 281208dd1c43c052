/- What the walks ask of the table of types. Written by lift.py. -/
import Derived.Test.YthjhbfpacbldgaaPlain
import Derived.Test.YthjhbfpacbldgaaChecked
import Derived.Test.YthjhbfpacbldgaaLiftX
set_option linter.unusedVariables false
set_option linter.unusedSimpArgs false
namespace Lift
open Go Go.Proofs
def fragment_open.orepW (lf : ORep (List Int)) : ORep fragment_open := (oiso (fun s : fragment_open => (s.whole, s.size, s.last, ())) (oprod (oiso (fun s : Whole_ => (s.From, s.Owner, s.Tag, s.Data, ())) (oprod (sh (Rep.int .u8)) (oprod (sh Rep.bool) (oprod (sh (Rep.int .i64)) (oprod lf ounit))))) (oprod (sh (Rep.int .i64)) (oprod (sh (Rep.int .i64)) ounit))))
def fragment_open.hrepW (lf : Rep (List Int)) : Rep fragment_open := (Rep.iso (fun s : fragment_open => (s.whole, s.size, s.last, ())) (Rep.prod (Rep.iso (fun s : Whole_ => (s.From, s.Owner, s.Tag, s.Data, ())) (Rep.prod (Rep.int .u8) (Rep.prod Rep.bool (Rep.prod (Rep.int .i64) (Rep.prod lf Rep.unit))))) (Rep.prod (Rep.int .i64) (Rep.prod (Rep.int .i64) Rep.unit))))
abbrev fragment_open.own : ORep (List Int) := oslice 5 1 (fun _ => sh (Rep.int .u8))
def fragment_open.orep : ORep fragment_open := fragment_open.orepW fragment_open.own
def fragment_open.hrep : Rep fragment_open := fragment_open.hrepW Rep.hollow
theorem fragment_open.wkW {lf : ORep (List Int)} {lg : Rep (List Int)} (h : Wk lf lg) : Wk (fragment_open.orepW lf) (fragment_open.hrepW lg) := (Wk.iso (Wk.prod (Wk.iso (Wk.prod Wk.sh (Wk.prod Wk.sh (Wk.prod Wk.sh (Wk.prod h Wk.unit))))) (Wk.prod Wk.sh (Wk.prod Wk.sh Wk.unit))))
theorem fragment_open.wk : Wk fragment_open.orep fragment_open.hrep := fragment_open.wkW Wk.own
theorem fragment_open.rf : Rf fragment_open.orep fragment_open.rep := (Rf.iso (Rf.prod (Rf.iso (Rf.prod Rf.sh (Rf.prod Rf.sh (Rf.prod Rf.sh (Rf.prod (Rf.own Rf.sh) Rf.unit))))) (Rf.prod Rf.sh (Rf.prod Rf.sh Rf.unit))))
theorem fragment_open.lenO (v : Value) {x : fragment_open} : Len fragment_open.orep (fragment_open.orepW (raw v)) 3 fragment_open.own (raw v) x x.whole.Data (fun y_ => { x with whole := { x.whole with Data := y_ } }) := Len.off (Len.iso (fun s : fragment_open => (s.whole, s.size, s.last, ())) (Len.comp (Len.here (by rfl)) (Len.iso (fun s : Whole_ => (s.From, s.Owner, s.Tag, s.Data, ())) (Len.there (Len.there (Len.there (Len.here (by rfl))))) (fun _ => rfl) rfl)) (fun _ => rfl) rfl) (by rfl)
theorem fragment_open.lenC (v : Value) {x : fragment_open} : Len (fragment_open.orepW (raw v)) fragment_open.orep 3 (raw v) fragment_open.own x x.whole.Data (fun y_ => { x with whole := { x.whole with Data := y_ } }) := Len.off (Len.iso (fun s : fragment_open => (s.whole, s.size, s.last, ())) (Len.comp (Len.here (by rfl)) (Len.iso (fun s : Whole_ => (s.From, s.Owner, s.Tag, s.Data, ())) (Len.there (Len.there (Len.there (Len.here (by rfl))))) (fun _ => rfl) rfl)) (fun _ => rfl) rfl) (by rfl)
theorem fragment_open.lenS {x : fragment_open} : Len fragment_open.orep fragment_open.orep 3 fragment_open.own fragment_open.own x x.whole.Data (fun y_ => { x with whole := { x.whole with Data := y_ } }) := Len.off (Len.iso (fun s : fragment_open => (s.whole, s.size, s.last, ())) (Len.comp (Len.here (by rfl)) (Len.iso (fun s : Whole_ => (s.From, s.Owner, s.Tag, s.Data, ())) (Len.there (Len.there (Len.there (Len.here (by rfl))))) (fun _ => rfl) rfl)) (fun _ => rfl) rfl) (by rfl)
theorem fragment_open.joW {P : Blks → Blks → World → Prop} {lf : ORep (List Int)} {lg : Rep (List Int)} {x : fragment_open} {y_ : List Int} (h : Jo P lg lf x.whole.Data y_) : Jo P (fragment_open.hrepW lg) (fragment_open.orepW lf) x { x with whole := { x.whole with Data := y_ } } := (Jo.iso _ (Jo.here (Jo.iso _ (Jo.there Jo.sh (Jo.there Jo.sh (Jo.there Jo.sh (Jo.here h Jo.unit))))) (Jo.here Jo.sh (Jo.here Jo.sh Jo.unit))))
theorem fragment_open.l0_0 {x : fragment_open} : Len fragment_open.orep fragment_open.orep 0 (sh (Rep.int .u8)) (sh (Rep.int .u8)) x x.whole.From (fun y_ => { x with whole := { x.whole with From := y_ } }) := Len.off (Len.iso (fun s : fragment_open => (s.whole, s.size, s.last, ())) (Len.comp (Len.here (by rfl)) (Len.iso (fun s : Whole_ => (s.From, s.Owner, s.Tag, s.Data, ())) (Len.here (by rfl)) (fun _ => rfl) rfl)) (fun _ => rfl) rfl) (by rfl)
theorem fragment_open.l0_1 {x : fragment_open} : Len fragment_open.orep fragment_open.orep 1 (sh Rep.bool) (sh Rep.bool) x x.whole.Owner (fun y_ => { x with whole := { x.whole with Owner := y_ } }) := Len.off (Len.iso (fun s : fragment_open => (s.whole, s.size, s.last, ())) (Len.comp (Len.here (by rfl)) (Len.iso (fun s : Whole_ => (s.From, s.Owner, s.Tag, s.Data, ())) (Len.there (Len.here (by rfl))) (fun _ => rfl) rfl)) (fun _ => rfl) rfl) (by rfl)
theorem fragment_open.l0_2 {x : fragment_open} : Len fragment_open.orep fragment_open.orep 2 (sh (Rep.int .i64)) (sh (Rep.int .i64)) x x.whole.Tag (fun y_ => { x with whole := { x.whole with Tag := y_ } }) := Len.off (Len.iso (fun s : fragment_open => (s.whole, s.size, s.last, ())) (Len.comp (Len.here (by rfl)) (Len.iso (fun s : Whole_ => (s.From, s.Owner, s.Tag, s.Data, ())) (Len.there (Len.there (Len.here (by rfl)))) (fun _ => rfl) rfl)) (fun _ => rfl) rfl) (by rfl)
theorem fragment_open.l1 {x : fragment_open} : Len fragment_open.orep fragment_open.orep 4 (sh (Rep.int .i64)) (sh (Rep.int .i64)) x x.size (fun y_ => { x with size := y_ }) := Len.off (Len.iso (fun s : fragment_open => (s.whole, s.size, s.last, ())) (Len.there (Len.here (by rfl))) (fun _ => rfl) rfl) (by rfl)
theorem fragment_open.l2 {x : fragment_open} : Len fragment_open.orep fragment_open.orep 5 (sh (Rep.int .i64)) (sh (Rep.int .i64)) x x.last (fun y_ => { x with last := y_ }) := Len.off (Len.iso (fun s : fragment_open => (s.whole, s.size, s.last, ())) (Len.there (Len.there (Len.here (by rfl)))) (fun _ => rfl) rfl) (by rfl)
def Whole_.orepW (lf : ORep (List Int)) : ORep Whole_ := (oiso (fun s : Whole_ => (s.From, s.Owner, s.Tag, s.Data, ())) (oprod (sh (Rep.int .u8)) (oprod (sh Rep.bool) (oprod (sh (Rep.int .i64)) (oprod lf ounit)))))
def Whole_.hrepW (lf : Rep (List Int)) : Rep Whole_ := (Rep.iso (fun s : Whole_ => (s.From, s.Owner, s.Tag, s.Data, ())) (Rep.prod (Rep.int .u8) (Rep.prod Rep.bool (Rep.prod (Rep.int .i64) (Rep.prod lf Rep.unit)))))
abbrev Whole_.own : ORep (List Int) := oslice 5 1 (fun _ => sh (Rep.int .u8))
def Whole_.orep : ORep Whole_ := Whole_.orepW Whole_.own
def Whole_.hrep : Rep Whole_ := Whole_.hrepW Rep.hollow
theorem Whole_.wkW {lf : ORep (List Int)} {lg : Rep (List Int)} (h : Wk lf lg) : Wk (Whole_.orepW lf) (Whole_.hrepW lg) := (Wk.iso (Wk.prod Wk.sh (Wk.prod Wk.sh (Wk.prod Wk.sh (Wk.prod h Wk.unit)))))
theorem Whole_.wk : Wk Whole_.orep Whole_.hrep := Whole_.wkW Wk.own
theorem Whole_.rf : Rf Whole_.orep Whole_.rep := (Rf.iso (Rf.prod Rf.sh (Rf.prod Rf.sh (Rf.prod Rf.sh (Rf.prod (Rf.own Rf.sh) Rf.unit)))))
theorem Whole_.lenO (v : Value) {x : Whole_} : Len Whole_.orep (Whole_.orepW (raw v)) 3 Whole_.own (raw v) x x.Data (fun y_ => { x with Data := y_ }) := Len.off (Len.iso (fun s : Whole_ => (s.From, s.Owner, s.Tag, s.Data, ())) (Len.there (Len.there (Len.there (Len.here (by rfl))))) (fun _ => rfl) rfl) (by rfl)
theorem Whole_.lenC (v : Value) {x : Whole_} : Len (Whole_.orepW (raw v)) Whole_.orep 3 (raw v) Whole_.own x x.Data (fun y_ => { x with Data := y_ }) := Len.off (Len.iso (fun s : Whole_ => (s.From, s.Owner, s.Tag, s.Data, ())) (Len.there (Len.there (Len.there (Len.here (by rfl))))) (fun _ => rfl) rfl) (by rfl)
theorem Whole_.lenS {x : Whole_} : Len Whole_.orep Whole_.orep 3 Whole_.own Whole_.own x x.Data (fun y_ => { x with Data := y_ }) := Len.off (Len.iso (fun s : Whole_ => (s.From, s.Owner, s.Tag, s.Data, ())) (Len.there (Len.there (Len.there (Len.here (by rfl))))) (fun _ => rfl) rfl) (by rfl)
theorem Whole_.joW {P : Blks → Blks → World → Prop} {lf : ORep (List Int)} {lg : Rep (List Int)} {x : Whole_} {y_ : List Int} (h : Jo P lg lf x.Data y_) : Jo P (Whole_.hrepW lg) (Whole_.orepW lf) x { x with Data := y_ } := (Jo.iso _ (Jo.there Jo.sh (Jo.there Jo.sh (Jo.there Jo.sh (Jo.here h Jo.unit)))))
theorem Whole_.l0 {x : Whole_} : Len Whole_.orep Whole_.orep 0 (sh (Rep.int .u8)) (sh (Rep.int .u8)) x x.From (fun y_ => { x with From := y_ }) := Len.off (Len.iso (fun s : Whole_ => (s.From, s.Owner, s.Tag, s.Data, ())) (Len.here (by rfl)) (fun _ => rfl) rfl) (by rfl)
theorem Whole_.l1 {x : Whole_} : Len Whole_.orep Whole_.orep 1 (sh Rep.bool) (sh Rep.bool) x x.Owner (fun y_ => { x with Owner := y_ }) := Len.off (Len.iso (fun s : Whole_ => (s.From, s.Owner, s.Tag, s.Data, ())) (Len.there (Len.here (by rfl))) (fun _ => rfl) rfl) (by rfl)
theorem Whole_.l2 {x : Whole_} : Len Whole_.orep Whole_.orep 2 (sh (Rep.int .i64)) (sh (Rep.int .i64)) x x.Tag (fun y_ => { x with Tag := y_ }) := Len.off (Len.iso (fun s : Whole_ => (s.From, s.Owner, s.Tag, s.Data, ())) (Len.there (Len.there (Len.here (by rfl)))) (fun _ => rfl) rfl) (by rfl)
theorem fa24_2 : FA Try.prog 24 2 2 := ⟨_, _, Try.underlying24, rfl, rfl, by kernel_rfl⟩
theorem ty5 : Ty Try.prog 5 (Rep.int .u8) := ⟨⟨_, Try.underlying5, rfl⟩, by kernel_rfl, (fun _ => rfl)⟩
theorem fa24_0 : FA Try.prog 24 0 0 := ⟨_, _, Try.underlying24, rfl, rfl, by kernel_rfl⟩
theorem fa24_1 : FA Try.prog 24 1 1 := ⟨_, _, Try.underlying24, rfl, rfl, by kernel_rfl⟩
theorem fa24_4 : FA Try.prog 24 4 4 := ⟨_, _, Try.underlying24, rfl, rfl, by kernel_rfl⟩
theorem ty3 : Ty Try.prog 3 (Rep.int .i64) := ⟨⟨_, Try.underlying3, rfl⟩, by kernel_rfl, (fun _ => rfl)⟩
theorem fa24_5 : FA Try.prog 24 5 5 := ⟨_, _, Try.underlying24, rfl, rfl, by kernel_rfl⟩
theorem fa24_6 : FA Try.prog 24 6 6 := ⟨_, _, Try.underlying24, rfl, rfl, by kernel_rfl⟩
theorem fa24_8 : FA Try.prog 24 8 8 := ⟨_, _, Try.underlying24, rfl, rfl, by kernel_rfl⟩
theorem ty22 : Ty Try.prog 22 (Rep.slice (Rep.int .u8)) := ⟨⟨_, Try.underlying22, rfl⟩, by kernel_rfl, (fun _ => rfl)⟩
theorem ty24 : Ty Try.prog 24 Message_.rep := ⟨⟨_, Try.underlying24, rfl⟩, by kernel_rfl, (fun h => Bool.noConfusion h)⟩
theorem fa24_7 : FA Try.prog 24 7 7 := ⟨_, _, Try.underlying24, rfl, rfl, by kernel_rfl⟩
theorem ti5 : TI Try.prog 5 (.int .u8 0) 1 1 := TI.of (by kernel_rfl)
theorem fa24_3 : FA Try.prog 24 3 3 := ⟨_, _, Try.underlying24, rfl, rfl, by kernel_rfl⟩
theorem Try_mixed : Try.prog.follows .mixedOrders = true := Try.checked.mixed
theorem pl24 : PL Try.prog 24 [(0, 1), (1, 1), (2, 1), (3, 1), (4, 1), (5, 1), (6, 1), (7, 1), (8, 1)] := ⟨_, Try.underlying24, by kernel_rfl⟩
theorem ti24 : TI Try.prog 24 (.agg #[.int .u8 0, .int .u8 0, .int .u8 0, .int .u8 0, .int .i64 0, .int .i64 0, .int .i64 0, .int .u8 0, .slice none 0 0]) 9 64 := TI.of (by kernel_rfl)
theorem pl77 : PL Try.prog 77 [(0, 1), (1, 1)] := ⟨_, Try.underlying77, by kernel_rfl⟩
theorem ti77 : TI Try.prog 77 (.agg #[.slice none 0 0, .int .i64 0]) 2 32 := TI.of (by kernel_rfl)
theorem fa77_1 : FA Try.prog 77 1 1 := ⟨_, _, Try.underlying77, rfl, rfl, by kernel_rfl⟩
theorem fa77_0 : FA Try.prog 77 0 0 := ⟨_, _, Try.underlying77, rfl, rfl, by kernel_rfl⟩
theorem ty25 : Ty Try.prog 25 (Rep.slice (Rep.int .i64)) := ⟨⟨_, Try.underlying25, rfl⟩, by kernel_rfl, (fun _ => rfl)⟩
theorem ti78 : TI Try.prog 78 (.agg #[.int .u8 0, .int .u8 0, .int .u8 0, .int .u8 0, .int .u8 0, .int .u8 0, .int .u8 0, .int .u8 0]) 8 8 := TI.of (by kernel_rfl)
theorem ty78 : Ty Try.prog 78 (Rep.arr 8 (Rep.int .u8)) := ⟨⟨_, Try.underlying78, rfl⟩, by kernel_rfl, (fun h => Bool.noConfusion h)⟩
theorem ti44 : TI Try.prog 44 (.agg #[.int .u8 0, .int .u8 0, .int .u8 0, .int .u8 0, .int .i64 0, .int .i64 0, .int .i64 0, .int .u8 0, .slice none 0 0, .int .u8 0, .int .u8 0, .int .u8 0, .int .u8 0, .int .i64 0, .int .i64 0, .int .i64 0, .int .u8 0, .slice none 0 0]) 18 128 := TI.of (by kernel_rfl)
theorem ty44 : Ty Try.prog 44 (Rep.arr 2 Message_.rep) := ⟨⟨_, Try.underlying44, rfl⟩, by kernel_rfl, (fun h => Bool.noConfusion h)⟩
theorem ti22 : TI Try.prog 22 (.slice none 0 0) 1 24 := TI.of (by kernel_rfl)
theorem ti55 : TI Try.prog 55 (.slice none 0 0) 1 24 := TI.of (by kernel_rfl)
theorem ty55 : Ty Try.prog 55 (Rep.slice Packet_.rep) := ⟨⟨_, Try.underlying55, rfl⟩, by kernel_rfl, (fun _ => rfl)⟩
theorem ty4 : Ty Try.prog 4 Rep.bool := ⟨⟨_, Try.underlying4, rfl⟩, by kernel_rfl, (fun _ => rfl)⟩
theorem pl63 : PL Try.prog 63 [(0, 1), (1, 1), (2, 1), (3, 1), (4, 1), (5, 1), (6, 1), (7, 1)] := ⟨_, Try.underlying63, by kernel_rfl⟩
theorem ti63 : TI Try.prog 63 (.agg #[.int .u8 0, .int .u8 0, .bool false, .bool false, .int .i64 0, .bool false, .int .i64 0, .slice none 0 0]) 8 56 := TI.of (by kernel_rfl)
theorem ty63 : Ty Try.prog 63 Packet_.rep := ⟨⟨_, Try.underlying63, rfl⟩, by kernel_rfl, (fun h => Bool.noConfusion h)⟩
theorem fa63_2 : FA Try.prog 63 2 2 := ⟨_, _, Try.underlying63, rfl, rfl, by kernel_rfl⟩
theorem fa63_3 : FA Try.prog 63 3 3 := ⟨_, _, Try.underlying63, rfl, rfl, by kernel_rfl⟩
theorem pl88 : PL Try.prog 88 [(0, 1), (1, 1)] := ⟨_, Try.underlying88, by kernel_rfl⟩
theorem ti88 : TI Try.prog 88 (.agg #[.int .u8 0, .slice none 0 0]) 2 32 := TI.of (by kernel_rfl)
theorem fa63_0 : FA Try.prog 63 0 0 := ⟨_, _, Try.underlying63, rfl, rfl, by kernel_rfl⟩
theorem fa63_1 : FA Try.prog 63 1 1 := ⟨_, _, Try.underlying63, rfl, rfl, by kernel_rfl⟩
theorem fa63_4 : FA Try.prog 63 4 4 := ⟨_, _, Try.underlying63, rfl, rfl, by kernel_rfl⟩
theorem fa63_6 : FA Try.prog 63 6 6 := ⟨_, _, Try.underlying63, rfl, rfl, by kernel_rfl⟩
theorem fa63_7 : FA Try.prog 63 7 7 := ⟨_, _, Try.underlying63, rfl, rfl, by kernel_rfl⟩
theorem pl90 : PL Try.prog 90 [(0, 1), (1, 1)] := ⟨_, Try.underlying90, by kernel_rfl⟩
theorem ti90 : TI Try.prog 90 (.agg #[.bool false, .int .u8 0]) 2 2 := TI.of (by kernel_rfl)
theorem fa63_5 : FA Try.prog 63 5 5 := ⟨_, _, Try.underlying63, rfl, rfl, by kernel_rfl⟩
theorem ty90 : Ty Try.prog 90 Anon_af38c4.rep := ⟨⟨_, Try.underlying90, rfl⟩, by kernel_rfl, (fun h => Bool.noConfusion h)⟩
theorem fa90_0 : FA Try.prog 90 0 0 := ⟨_, _, Try.underlying90, rfl, rfl, by kernel_rfl⟩
theorem fa90_1 : FA Try.prog 90 1 1 := ⟨_, _, Try.underlying90, rfl, rfl, by kernel_rfl⟩
theorem fa66_0 : FA Try.prog 66 0 0 := ⟨_, _, Try.underlying66, rfl, rfl, by kernel_rfl⟩
theorem fa66_1 : FA Try.prog 66 1 1 := ⟨_, _, Try.underlying66, rfl, rfl, by kernel_rfl⟩
theorem fa66_2 : FA Try.prog 66 2 2 := ⟨_, _, Try.underlying66, rfl, rfl, by kernel_rfl⟩
theorem ty66 : Ty Try.prog 66 Frame_.rep := ⟨⟨_, Try.underlying66, rfl⟩, by kernel_rfl, (fun h => Bool.noConfusion h)⟩
theorem ti66 : TI Try.prog 66 (.agg #[.int .u8 0, .int .u8 0, .slice none 0 0]) 3 32 := TI.of (by kernel_rfl)
theorem pl66 : PL Try.prog 66 [(0, 1), (1, 1), (2, 1)] := ⟨_, Try.underlying66, by kernel_rfl⟩
theorem fa99_0 : FA Try.prog 99 0 0 := ⟨_, _, Try.underlying99, rfl, rfl, by kernel_rfl⟩
theorem fa72_0 : FA Try.prog 72 0 0 := ⟨_, _, Try.underlying72, rfl, rfl, by kernel_rfl⟩
theorem fa88_1 : FA Try.prog 88 1 1 := ⟨_, _, Try.underlying88, rfl, rfl, by kernel_rfl⟩
theorem ty86 : Ty Try.prog 86 (Rep.slice fragment_open.rep) := ⟨⟨_, Try.underlying86, rfl⟩, by kernel_rfl, (fun _ => rfl)⟩
theorem ty99 : Ty Try.prog 99 fragment_open.rep := ⟨⟨_, Try.underlying99, rfl⟩, by kernel_rfl, (fun h => Bool.noConfusion h)⟩
theorem fa72_1 : FA Try.prog 72 1 1 := ⟨_, _, Try.underlying72, rfl, rfl, by kernel_rfl⟩
theorem fa72_2 : FA Try.prog 72 2 2 := ⟨_, _, Try.underlying72, rfl, rfl, by kernel_rfl⟩
theorem ti99 : TI Try.prog 99 (.agg #[.int .u8 0, .bool false, .int .i64 0, .slice none 0 0, .int .i64 0, .int .i64 0]) 6 56 := TI.of (by kernel_rfl)
theorem ti72 : TI Try.prog 72 (.agg #[.int .u8 0, .bool false, .int .i64 0, .slice none 0 0]) 4 40 := TI.of (by kernel_rfl)
theorem pl72 : PL Try.prog 72 [(0, 1), (1, 1), (2, 1), (3, 1)] := ⟨_, Try.underlying72, by kernel_rfl⟩
theorem ty72 : Ty Try.prog 72 Whole_.rep := ⟨⟨_, Try.underlying72, rfl⟩, by kernel_rfl, (fun h => Bool.noConfusion h)⟩
theorem pl99 : PL Try.prog 99 [(0, 4), (4, 1), (5, 1)] := ⟨_, Try.underlying99, by kernel_rfl⟩
theorem fa88_0 : FA Try.prog 88 0 0 := ⟨_, _, Try.underlying88, rfl, rfl, by kernel_rfl⟩
theorem sz99 : (Try.prog.info? 99).map (·.size) = some 6 := by kernel_rfl
theorem fa99_2 : FA Try.prog 99 2 5 := ⟨_, _, Try.underlying99, rfl, rfl, by kernel_rfl⟩
theorem fa99_1 : FA Try.prog 99 1 4 := ⟨_, _, Try.underlying99, rfl, rfl, by kernel_rfl⟩
theorem fa72_3 : FA Try.prog 72 3 3 := ⟨_, _, Try.underlying72, rfl, rfl, by kernel_rfl⟩
theorem rd5 : Rd Try.prog 5 (.int .u8) (okI .u8) := Rd.int Try.underlying5
theorem rd3 : Rd Try.prog 3 (.int .i64) (okI .i64) := Rd.int Try.underlying3
theorem rd22 : Rd Try.prog 22 (Rep.slice (Rep.int .u8)) (okL (okI .u8)) := Rd.slice Try.underlying22 (by kernel_rfl) rfl rd5
theorem rd24 : Rd Try.prog 24 Message_.rep Message_.ok := Rd.struct _ (fun p => ⟨p.1, p.2.1, p.2.2.1, p.2.2.2.1, p.2.2.2.2.1, p.2.2.2.2.2.1, p.2.2.2.2.2.2.1, p.2.2.2.2.2.2.2.1, p.2.2.2.2.2.2.2.2.1⟩) (fun _ => rfl) Try.underlying24 (by kernel_rfl) (.cons rfl (by kernel_rfl) rd5 (.cons rfl (by kernel_rfl) rd5 (.cons rfl (by kernel_rfl) rd5 (.cons rfl (by kernel_rfl) rd5 (.cons rfl (by kernel_rfl) rd3 (.cons rfl (by kernel_rfl) rd3 (.cons rfl (by kernel_rfl) rd3 (.cons rfl (by kernel_rfl) rd5 (.cons rfl (by kernel_rfl) rd22 .nil)))))))))
theorem rd25 : Rd Try.prog 25 (Rep.slice (Rep.int .i64)) (okL (okI .i64)) := Rd.slice Try.underlying25 (by kernel_rfl) rfl rd3
theorem rd77 : Rd Try.prog 77 made_Dice.rep made_Dice.ok := Rd.struct _ (fun p => ⟨p.1, p.2.1⟩) (fun _ => rfl) Try.underlying77 (by kernel_rfl) (.cons rfl (by kernel_rfl) rd25 (.cons rfl (by kernel_rfl) rd3 .nil))
theorem rd4 : Rd Try.prog 4 .bool (fun _ => True) := Rd.bool Try.underlying4
theorem rd63 : Rd Try.prog 63 Packet_.rep Packet_.ok := Rd.struct _ (fun p => ⟨p.1, p.2.1, p.2.2.1, p.2.2.2.1, p.2.2.2.2.1, p.2.2.2.2.2.1, p.2.2.2.2.2.2.1, p.2.2.2.2.2.2.2.1⟩) (fun _ => rfl) Try.underlying63 (by kernel_rfl) (.cons rfl (by kernel_rfl) rd5 (.cons rfl (by kernel_rfl) rd5 (.cons rfl (by kernel_rfl) rd4 (.cons rfl (by kernel_rfl) rd4 (.cons rfl (by kernel_rfl) rd3 (.cons rfl (by kernel_rfl) rd4 (.cons rfl (by kernel_rfl) rd3 (.cons rfl (by kernel_rfl) rd22 .nil))))))))
theorem rd72 : Rd Try.prog 72 Whole_.rep Whole_.ok := Rd.struct _ (fun p => ⟨p.1, p.2.1, p.2.2.1, p.2.2.2.1⟩) (fun _ => rfl) Try.underlying72 (by kernel_rfl) (.cons rfl (by kernel_rfl) rd5 (.cons rfl (by kernel_rfl) rd4 (.cons rfl (by kernel_rfl) rd3 (.cons rfl (by kernel_rfl) rd22 .nil))))
theorem rd99 : Rd Try.prog 99 fragment_open.rep fragment_open.ok := Rd.struct _ (fun p => ⟨p.1, p.2.1, p.2.2.1⟩) (fun _ => rfl) Try.underlying99 (by kernel_rfl) (.cons rfl (by kernel_rfl) rd72 (.cons rfl (by kernel_rfl) rd3 (.cons rfl (by kernel_rfl) rd3 .nil)))
theorem rd86 : Rd Try.prog 86 (Rep.slice fragment_open.rep) (okL fragment_open.ok) := Rd.slice Try.underlying86 (by kernel_rfl) rfl rd99
theorem rd88 : Rd Try.prog 88 fragment_Assembler.rep fragment_Assembler.ok := Rd.struct _ (fun p => ⟨p.1, p.2.1⟩) (fun _ => rfl) Try.underlying88 (by kernel_rfl) (.cons rfl (by kernel_rfl) rd5 (.cons rfl (by kernel_rfl) rd86 .nil))
theorem rd90 : Rd Try.prog 90 Anon_af38c4.rep Anon_af38c4.ok := Rd.struct _ (fun p => ⟨p.1, p.2.1⟩) (fun _ => rfl) Try.underlying90 (by kernel_rfl) (.cons rfl (by kernel_rfl) rd4 (.cons rfl (by kernel_rfl) rd5 .nil))
theorem rd66 : Rd Try.prog 66 Frame_.rep Frame_.ok := Rd.struct _ (fun p => ⟨p.1, p.2.1, p.2.2.1⟩) (fun _ => rfl) Try.underlying66 (by kernel_rfl) (.cons rfl (by kernel_rfl) rd5 (.cons rfl (by kernel_rfl) rd5 (.cons rfl (by kernel_rfl) rd22 .nil)))
end Lift
