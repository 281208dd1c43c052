/- What the walks ask of the table of types. Written by lift.py. -/
import Derived.Test.YtnilklnmhndlnaaPlain
import Derived.Test.YtnilklnmhndlnaaChecked
import Derived.Test.YtnilklnmhndlnaaLiftX
set_option linter.unusedVariables false
set_option linter.unusedSimpArgs false
namespace Lift
open Go Go.Proofs
def fragment_open.orepW (lf : ORep (List Int)) : ORep fragment_open := (oiso (fun s : fragment_open => (s.whole, s.size, s.last, ())) (oprod (oiso (fun s : Whole_ => (s.From, s.Owner, s.Tag, s.Data, ())) (oprod (sh (Rep.int .u8)) (oprod (sh Rep.bool) (oprod (sh (Rep.int .i64)) (oprod lf ounit))))) (oprod (sh (Rep.int .i64)) (oprod (sh (Rep.int .i64)) ounit))))
def fragment_open.hrepW (lf : Rep (List Int)) : Rep fragment_open := (Rep.iso (fun s : fragment_open => (s.whole, s.size, s.last, ())) (Rep.prod (Rep.iso (fun s : Whole_ => (s.From, s.Owner, s.Tag, s.Data, ())) (Rep.prod (Rep.int .u8) (Rep.prod Rep.bool (Rep.prod (Rep.int .i64) (Rep.prod lf Rep.unit))))) (Rep.prod (Rep.int .i64) (Rep.prod (Rep.int .i64) Rep.unit))))
abbrev fragment_open.own : ORep (List Int) := oslice 5 1 (fun _ => sh (Rep.int .u8))
def fragment_open.orep : ORep fragment_open := fragment_open.orepW fragment_open.own
def fragment_open.hrep : Rep fragment_open := fragment_open.hrepW Rep.hollow
theorem fragment_open.wkW {lf : ORep (List Int)} {lg : Rep (List Int)} (h : Wk lf lg) : Wk (fragment_open.orepW lf) (fragment_open.hrepW lg) := (Wk.iso (Wk.prod (Wk.iso (Wk.prod Wk.sh (Wk.prod Wk.sh (Wk.prod Wk.sh (Wk.prod h Wk.unit))))) (Wk.prod Wk.sh (Wk.prod Wk.sh Wk.unit))))
theorem fragment_open.wk : Wk fragment_open.orep fragment_open.hrep := fragment_open.wkW Wk.own
theorem fragment_open.rf : Rf fragment_open.orep fragment_open.rep := (Rf.iso (Rf.prod (Rf.iso (Rf.prod Rf.sh (Rf.prod Rf.sh (Rf.prod Rf.sh (Rf.prod (Rf.own Rf.sh) Rf.unit))))) (Rf.prod Rf.sh (Rf.prod Rf.sh Rf.unit))))
theorem fragment_open.lenO (v : Value) {x : fragment_open} : Len fragment_open.orep (fragment_open.orepW (raw v)) 3 fragment_open.own (raw v) x x.whole.Data (fun y_ => { x with whole := { x.whole with Data := y_ } }) := Len.off (Len.iso (fun s : fragment_open => (s.whole, s.size, s.last, ())) (Len.comp (Len.here (by rfl)) (Len.iso (fun s : Whole_ => (s.From, s.Owner, s.Tag, s.Data, ())) (Len.there (Len.there (Len.there (Len.here (by rfl))))) (fun _ => rfl) rfl)) (fun _ => rfl) rfl) (by rfl)
theorem fragment_open.lenC (v : Value) {x : fragment_open} : Len (fragment_open.orepW (raw v)) fragment_open.orep 3 (raw v) fragment_open.own x x.whole.Data (fun y_ => { x with whole := { x.whole with Data := y_ } }) := Len.off (Len.iso (fun s : fragment_open => (s.whole, s.size, s.last, ())) (Len.comp (Len.here (by rfl)) (Len.iso (fun s : Whole_ => (s.From, s.Owner, s.Tag, s.Data, ())) (Len.there (Len.there (Len.there (Len.here (by rfl))))) (fun _ => rfl) rfl)) (fun _ => rfl) rfl) (by rfl)
theorem fragment_open.lenS {x : fragment_open} : Len fragment_open.orep fragment_open.orep 3 fragment_open.own fragment_open.own x x.whole.Data (fun y_ => { x with whole := { x.whole with Data := y_ } }) := Len.off (Len.iso (fun s : fragment_open => (s.whole, s.size, s.last, ())) (Len.comp (Len.here (by rfl)) (Len.iso (fun s : Whole_ => (s.From, s.Owner, s.Tag, s.Data, ())) (Len.there (Len.there (Len.there (Len.here (by rfl))))) (fun _ => rfl) rfl)) (fun _ => rfl) rfl) (by rfl)
theorem fragment_open.joW {P : Blks → Blks → World → Prop} {lf : ORep (List Int)} {lg : Rep (List Int)} {x : fragment_open} {y_ : List Int} (h : Jo P lg lf x.whole.Data y_) : Jo P (fragment_open.hrepW lg) (fragment_open.orepW lf) x { x with whole := { x.whole with Data := y_ } } := (Jo.iso _ (Jo.here (Jo.iso _ (Jo.there Jo.sh (Jo.there Jo.sh (Jo.there Jo.sh (Jo.here h Jo.unit))))) (Jo.here Jo.sh (Jo.here Jo.sh Jo.unit))))
theorem fragment_open.l0_0 {x : fragment_open} : Len fragment_open.orep fragment_open.orep 0 (sh (Rep.int .u8)) (sh (Rep.int .u8)) x x.whole.From (fun y_ => { x with whole := { x.whole with From := y_ } }) := Len.off (Len.iso (fun s : fragment_open => (s.whole, s.size, s.last, ())) (Len.comp (Len.here (by rfl)) (Len.iso (fun s : Whole_ => (s.From, s.Owner, s.Tag, s.Data, ())) (Len.here (by rfl)) (fun _ => rfl) rfl)) (fun _ => rfl) rfl) (by rfl)
theorem fragment_open.l0_1 {x : fragment_open} : Len fragment_open.orep fragment_open.orep 1 (sh Rep.bool) (sh Rep.bool) x x.whole.Owner (fun y_ => { x with whole := { x.whole with Owner := y_ } }) := Len.off (Len.iso (fun s : fragment_open => (s.whole, s.size, s.last, ())) (Len.comp (Len.here (by rfl)) (Len.iso (fun s : Whole_ => (s.From, s.Owner, s.Tag, s.Data, ())) (Len.there (Len.here (by rfl))) (fun _ => rfl) rfl)) (fun _ => rfl) rfl) (by rfl)
theorem fragment_open.l0_2 {x : fragment_open} : Len fragment_open.orep fragment_open.orep 2 (sh (Rep.int .i64)) (sh (Rep.int .i64)) x x.whole.Tag (fun y_ => { x with whole := { x.whole with Tag := y_ } }) := Len.off (Len.iso (fun s : fragment_open => (s.whole, s.size, s.last, ())) (Len.comp (Len.here (by rfl)) (Len.iso (fun s : Whole_ => (s.From, s.Owner, s.Tag, s.Data, ())) (Len.there (Len.there (Len.here (by rfl)))) (fun _ => rfl) rfl)) (fun _ => rfl) rfl) (by rfl)
theorem fragment_open.l1 {x : fragment_open} : Len fragment_open.orep fragment_open.orep 4 (sh (Rep.int .i64)) (sh (Rep.int .i64)) x x.size (fun y_ => { x with size := y_ }) := Len.off (Len.iso (fun s : fragment_open => (s.whole, s.size, s.last, ())) (Len.there (Len.here (by rfl))) (fun _ => rfl) rfl) (by rfl)
theorem fragment_open.l2 {x : fragment_open} : Len fragment_open.orep fragment_open.orep 5 (sh (Rep.int .i64)) (sh (Rep.int .i64)) x x.last (fun y_ => { x with last := y_ }) := Len.off (Len.iso (fun s : fragment_open => (s.whole, s.size, s.last, ())) (Len.there (Len.there (Len.here (by rfl)))) (fun _ => rfl) rfl) (by rfl)
def Whole_.orepW (lf : ORep (List Int)) : ORep Whole_ := (oiso (fun s : Whole_ => (s.From, s.Owner, s.Tag, s.Data, ())) (oprod (sh (Rep.int .u8)) (oprod (sh Rep.bool) (oprod (sh (Rep.int .i64)) (oprod lf ounit)))))
def Whole_.hrepW (lf : Rep (List Int)) : Rep Whole_ := (Rep.iso (fun s : Whole_ => (s.From, s.Owner, s.Tag, s.Data, ())) (Rep.prod (Rep.int .u8) (Rep.prod Rep.bool (Rep.prod (Rep.int .i64) (Rep.prod lf Rep.unit)))))
abbrev Whole_.own : ORep (List Int) := oslice 5 1 (fun _ => sh (Rep.int .u8))
def Whole_.orep : ORep Whole_ := Whole_.orepW Whole_.own
def Whole_.hrep : Rep Whole_ := Whole_.hrepW Rep.hollow
theorem Whole_.wkW {lf : ORep (List Int)} {lg : Rep (List Int)} (h : Wk lf lg) : Wk (Whole_.orepW lf) (Whole_.hrepW lg) := (Wk.iso (Wk.prod Wk.sh (Wk.prod Wk.sh (Wk.prod Wk.sh (Wk.prod h Wk.unit)))))
theorem Whole_.wk : Wk Whole_.orep Whole_.hrep := Whole_.wkW Wk.own
theorem Whole_.rf : Rf Whole_.orep Whole_.rep := (Rf.iso (Rf.prod Rf.sh (Rf.prod Rf.sh (Rf.prod Rf.sh (Rf.prod (Rf.own Rf.sh) Rf.unit)))))
theorem Whole_.lenO (v : Value) {x : Whole_} : Len Whole_.orep (Whole_.orepW (raw v)) 3 Whole_.own (raw v) x x.Data (fun y_ => { x with Data := y_ }) := Len.off (Len.iso (fun s : Whole_ => (s.From, s.Owner, s.Tag, s.Data, ())) (Len.there (Len.there (Len.there (Len.here (by rfl))))) (fun _ => rfl) rfl) (by rfl)
theorem Whole_.lenC (v : Value) {x : Whole_} : Len (Whole_.orepW (raw v)) Whole_.orep 3 (raw v) Whole_.own x x.Data (fun y_ => { x with Data := y_ }) := Len.off (Len.iso (fun s : Whole_ => (s.From, s.Owner, s.Tag, s.Data, ())) (Len.there (Len.there (Len.there (Len.here (by rfl))))) (fun _ => rfl) rfl) (by rfl)
theorem Whole_.lenS {x : Whole_} : Len Whole_.orep Whole_.orep 3 Whole_.own Whole_.own x x.Data (fun y_ => { x with Data := y_ }) := Len.off (Len.iso (fun s : Whole_ => (s.From, s.Owner, s.Tag, s.Data, ())) (Len.there (Len.there (Len.there (Len.here (by rfl))))) (fun _ => rfl) rfl) (by rfl)
theorem Whole_.joW {P : Blks → Blks → World → Prop} {lf : ORep (List Int)} {lg : Rep (List Int)} {x : Whole_} {y_ : List Int} (h : Jo P lg lf x.Data y_) : Jo P (Whole_.hrepW lg) (Whole_.orepW lf) x { x with Data := y_ } := (Jo.iso _ (Jo.there Jo.sh (Jo.there Jo.sh (Jo.there Jo.sh (Jo.here h Jo.unit)))))
theorem Whole_.l0 {x : Whole_} : Len Whole_.orep Whole_.orep 0 (sh (Rep.int .u8)) (sh (Rep.int .u8)) x x.From (fun y_ => { x with From := y_ }) := Len.off (Len.iso (fun s : Whole_ => (s.From, s.Owner, s.Tag, s.Data, ())) (Len.here (by rfl)) (fun _ => rfl) rfl) (by rfl)
theorem Whole_.l1 {x : Whole_} : Len Whole_.orep Whole_.orep 1 (sh Rep.bool) (sh Rep.bool) x x.Owner (fun y_ => { x with Owner := y_ }) := Len.off (Len.iso (fun s : Whole_ => (s.From, s.Owner, s.Tag, s.Data, ())) (Len.there (Len.here (by rfl))) (fun _ => rfl) rfl) (by rfl)
theorem Whole_.l2 {x : Whole_} : Len Whole_.orep Whole_.orep 2 (sh (Rep.int .i64)) (sh (Rep.int .i64)) x x.Tag (fun y_ => { x with Tag := y_ }) := Len.off (Len.iso (fun s : Whole_ => (s.From, s.Owner, s.Tag, s.Data, ())) (Len.there (Len.there (Len.here (by rfl)))) (fun _ => rfl) rfl) (by rfl)
theorem ty3 : Ty Try.prog 3 (Rep.int .i64) := ⟨⟨_, Try.underlying3, rfl⟩, by kernel_rfl, (fun _ => rfl)⟩
theorem ti5 : TI Try.prog 5 (.int .u8 0) 1 1 := TI.of (by kernel_rfl)
theorem ty5 : Ty Try.prog 5 (Rep.int .u8) := ⟨⟨_, Try.underlying5, rfl⟩, by kernel_rfl, (fun _ => rfl)⟩
theorem ti27 : TI Try.prog 27 (.slice none 0 0) 1 24 := TI.of (by kernel_rfl)
theorem ty22 : Ty Try.prog 22 (Rep.slice (Rep.int .u8)) := ⟨⟨_, Try.underlying22, rfl⟩, by kernel_rfl, (fun _ => rfl)⟩
theorem Try_mixed : Try.prog.follows .mixedOrders = true := Try.checked.mixed
theorem ty27 : Ty Try.prog 27 (Rep.slice Packet_.rep) := ⟨⟨_, Try.underlying27, rfl⟩, by kernel_rfl, (fun _ => rfl)⟩
theorem ty4 : Ty Try.prog 4 Rep.bool := ⟨⟨_, Try.underlying4, rfl⟩, by kernel_rfl, (fun _ => rfl)⟩
theorem pl44 : PL Try.prog 44 [(0, 1), (1, 1), (2, 1), (3, 1), (4, 1), (5, 1), (6, 1), (7, 1)] := ⟨_, Try.underlying44, by kernel_rfl⟩
theorem ti44 : TI Try.prog 44 (.agg #[.int .u8 0, .int .u8 0, .bool false, .bool false, .int .i64 0, .bool false, .int .i64 0, .slice none 0 0]) 8 56 := TI.of (by kernel_rfl)
theorem ty44 : Ty Try.prog 44 Packet_.rep := ⟨⟨_, Try.underlying44, rfl⟩, by kernel_rfl, (fun h => Bool.noConfusion h)⟩
theorem fa44_2 : FA Try.prog 44 2 2 := ⟨_, _, Try.underlying44, rfl, rfl, by kernel_rfl⟩
theorem fa44_3 : FA Try.prog 44 3 3 := ⟨_, _, Try.underlying44, rfl, rfl, by kernel_rfl⟩
theorem pl83 : PL Try.prog 83 [(0, 1), (1, 1)] := ⟨_, Try.underlying83, by kernel_rfl⟩
theorem ti83 : TI Try.prog 83 (.agg #[.int .u8 0, .slice none 0 0]) 2 32 := TI.of (by kernel_rfl)
theorem fa44_0 : FA Try.prog 44 0 0 := ⟨_, _, Try.underlying44, rfl, rfl, by kernel_rfl⟩
theorem fa44_1 : FA Try.prog 44 1 1 := ⟨_, _, Try.underlying44, rfl, rfl, by kernel_rfl⟩
theorem fa44_4 : FA Try.prog 44 4 4 := ⟨_, _, Try.underlying44, rfl, rfl, by kernel_rfl⟩
theorem fa44_6 : FA Try.prog 44 6 6 := ⟨_, _, Try.underlying44, rfl, rfl, by kernel_rfl⟩
theorem fa44_7 : FA Try.prog 44 7 7 := ⟨_, _, Try.underlying44, rfl, rfl, by kernel_rfl⟩
theorem fa92_0 : FA Try.prog 92 0 0 := ⟨_, _, Try.underlying92, rfl, rfl, by kernel_rfl⟩
theorem fa51_0 : FA Try.prog 51 0 0 := ⟨_, _, Try.underlying51, rfl, rfl, by kernel_rfl⟩
theorem fa83_1 : FA Try.prog 83 1 1 := ⟨_, _, Try.underlying83, rfl, rfl, by kernel_rfl⟩
theorem ty81 : Ty Try.prog 81 (Rep.slice fragment_open.rep) := ⟨⟨_, Try.underlying81, rfl⟩, by kernel_rfl, (fun _ => rfl)⟩
theorem ty92 : Ty Try.prog 92 fragment_open.rep := ⟨⟨_, Try.underlying92, rfl⟩, by kernel_rfl, (fun h => Bool.noConfusion h)⟩
theorem fa51_1 : FA Try.prog 51 1 1 := ⟨_, _, Try.underlying51, rfl, rfl, by kernel_rfl⟩
theorem fa44_5 : FA Try.prog 44 5 5 := ⟨_, _, Try.underlying44, rfl, rfl, by kernel_rfl⟩
theorem fa51_2 : FA Try.prog 51 2 2 := ⟨_, _, Try.underlying51, rfl, rfl, by kernel_rfl⟩
theorem ti92 : TI Try.prog 92 (.agg #[.int .u8 0, .bool false, .int .i64 0, .slice none 0 0, .int .i64 0, .int .i64 0]) 6 56 := TI.of (by kernel_rfl)
theorem ti51 : TI Try.prog 51 (.agg #[.int .u8 0, .bool false, .int .i64 0, .slice none 0 0]) 4 40 := TI.of (by kernel_rfl)
theorem pl51 : PL Try.prog 51 [(0, 1), (1, 1), (2, 1), (3, 1)] := ⟨_, Try.underlying51, by kernel_rfl⟩
theorem ty51 : Ty Try.prog 51 Whole_.rep := ⟨⟨_, Try.underlying51, rfl⟩, by kernel_rfl, (fun h => Bool.noConfusion h)⟩
theorem pl92 : PL Try.prog 92 [(0, 4), (4, 1), (5, 1)] := ⟨_, Try.underlying92, by kernel_rfl⟩
theorem fa83_0 : FA Try.prog 83 0 0 := ⟨_, _, Try.underlying83, rfl, rfl, by kernel_rfl⟩
theorem sz92 : (Try.prog.info? 92).map (·.size) = some 6 := by kernel_rfl
theorem fa92_2 : FA Try.prog 92 2 5 := ⟨_, _, Try.underlying92, rfl, rfl, by kernel_rfl⟩
theorem fa92_1 : FA Try.prog 92 1 4 := ⟨_, _, Try.underlying92, rfl, rfl, by kernel_rfl⟩
theorem fa51_3 : FA Try.prog 51 3 3 := ⟨_, _, Try.underlying51, rfl, rfl, by kernel_rfl⟩
theorem ti3 : TI Try.prog 3 (.int .i64 0) 1 8 := TI.of (by kernel_rfl)
theorem ti24 : TI Try.prog 24 (.agg #[.int .i64 0, .int .i64 0]) 2 16 := TI.of (by kernel_rfl)
theorem ty24 : Ty Try.prog 24 (Rep.arr 2 (Rep.int .i64)) := ⟨⟨_, Try.underlying24, rfl⟩, by kernel_rfl, (fun h => Bool.noConfusion h)⟩
theorem pl49 : PL Try.prog 49 [(0, 1), (1, 1)] := ⟨_, Try.underlying49, by kernel_rfl⟩
theorem ti49 : TI Try.prog 49 (.agg #[.int .u8 0, .slice none 0 0]) 2 32 := TI.of (by kernel_rfl)
theorem pl85 : PL Try.prog 85 [(0, 1), (1, 1)] := ⟨_, Try.underlying85, by kernel_rfl⟩
theorem ti85 : TI Try.prog 85 (.agg #[.slice none 0 0, .int .i64 0]) 2 32 := TI.of (by kernel_rfl)
theorem fa85_1 : FA Try.prog 85 1 1 := ⟨_, _, Try.underlying85, rfl, rfl, by kernel_rfl⟩
theorem fa85_0 : FA Try.prog 85 0 0 := ⟨_, _, Try.underlying85, rfl, rfl, by kernel_rfl⟩
theorem ty33 : Ty Try.prog 33 (Rep.slice (Rep.int .i64)) := ⟨⟨_, Try.underlying33, rfl⟩, by kernel_rfl, (fun _ => rfl)⟩
theorem ti96 : TI Try.prog 96 (.agg #[.int .u8 0, .int .u8 0, .int .u8 0, .int .u8 0, .int .u8 0, .int .u8 0, .int .u8 0, .int .u8 0]) 8 8 := TI.of (by kernel_rfl)
theorem ty96 : Ty Try.prog 96 (Rep.arr 8 (Rep.int .u8)) := ⟨⟨_, Try.underlying96, rfl⟩, by kernel_rfl, (fun h => Bool.noConfusion h)⟩
theorem fa49_1 : FA Try.prog 49 1 1 := ⟨_, _, Try.underlying49, rfl, rfl, by kernel_rfl⟩
theorem ty47 : Ty Try.prog 47 (Rep.slice ref22_Item.rep) := ⟨⟨_, Try.underlying47, rfl⟩, by kernel_rfl, (fun _ => rfl)⟩
theorem ty53 : Ty Try.prog 53 ref22_Item.rep := ⟨⟨_, Try.underlying53, rfl⟩, by kernel_rfl, (fun h => Bool.noConfusion h)⟩
theorem fa53_0 : FA Try.prog 53 0 0 := ⟨_, _, Try.underlying53, rfl, rfl, by kernel_rfl⟩
theorem ti53 : TI Try.prog 53 (.agg #[.int .u8 0, .bool false, .int .i64 0, .slice none 0 0, .int .i64 0, .int .i64 0]) 6 56 := TI.of (by kernel_rfl)
theorem fa49_0 : FA Try.prog 49 0 0 := ⟨_, _, Try.underlying49, rfl, rfl, by kernel_rfl⟩
theorem pl53 : PL Try.prog 53 [(0, 4), (4, 1), (5, 1)] := ⟨_, Try.underlying53, by kernel_rfl⟩
theorem fa53_2 : FA Try.prog 53 2 5 := ⟨_, _, Try.underlying53, rfl, rfl, by kernel_rfl⟩
theorem fa53_1 : FA Try.prog 53 1 4 := ⟨_, _, Try.underlying53, rfl, rfl, by kernel_rfl⟩
theorem pl94 : PL Try.prog 94 [(0, 1), (1, 1)] := ⟨_, Try.underlying94, by kernel_rfl⟩
theorem ti94 : TI Try.prog 94 (.agg #[.bool false, .int .u8 0]) 2 2 := TI.of (by kernel_rfl)
theorem ty94 : Ty Try.prog 94 Anon_af38c4.rep := ⟨⟨_, Try.underlying94, rfl⟩, by kernel_rfl, (fun h => Bool.noConfusion h)⟩
theorem fa94_0 : FA Try.prog 94 0 0 := ⟨_, _, Try.underlying94, rfl, rfl, by kernel_rfl⟩
theorem fa94_1 : FA Try.prog 94 1 1 := ⟨_, _, Try.underlying94, rfl, rfl, by kernel_rfl⟩
theorem ti22 : TI Try.prog 22 (.slice none 0 0) 1 24 := TI.of (by kernel_rfl)
theorem rd5 : Rd Try.prog 5 (.int .u8) (okI .u8) := Rd.int Try.underlying5
theorem rd4 : Rd Try.prog 4 .bool (fun _ => True) := Rd.bool Try.underlying4
theorem rd3 : Rd Try.prog 3 (.int .i64) (okI .i64) := Rd.int Try.underlying3
theorem rd22 : Rd Try.prog 22 (Rep.slice (Rep.int .u8)) (okL (okI .u8)) := Rd.slice Try.underlying22 (by kernel_rfl) rfl rd5
theorem rd44 : Rd Try.prog 44 Packet_.rep Packet_.ok := Rd.struct _ (fun p => ⟨p.1, p.2.1, p.2.2.1, p.2.2.2.1, p.2.2.2.2.1, p.2.2.2.2.2.1, p.2.2.2.2.2.2.1, p.2.2.2.2.2.2.2.1⟩) (fun _ => rfl) Try.underlying44 (by kernel_rfl) (.cons rfl (by kernel_rfl) rd5 (.cons rfl (by kernel_rfl) rd5 (.cons rfl (by kernel_rfl) rd4 (.cons rfl (by kernel_rfl) rd4 (.cons rfl (by kernel_rfl) rd3 (.cons rfl (by kernel_rfl) rd4 (.cons rfl (by kernel_rfl) rd3 (.cons rfl (by kernel_rfl) rd22 .nil))))))))
theorem rd51 : Rd Try.prog 51 Whole_.rep Whole_.ok := Rd.struct _ (fun p => ⟨p.1, p.2.1, p.2.2.1, p.2.2.2.1⟩) (fun _ => rfl) Try.underlying51 (by kernel_rfl) (.cons rfl (by kernel_rfl) rd5 (.cons rfl (by kernel_rfl) rd4 (.cons rfl (by kernel_rfl) rd3 (.cons rfl (by kernel_rfl) rd22 .nil))))
theorem rd92 : Rd Try.prog 92 fragment_open.rep fragment_open.ok := Rd.struct _ (fun p => ⟨p.1, p.2.1, p.2.2.1⟩) (fun _ => rfl) Try.underlying92 (by kernel_rfl) (.cons rfl (by kernel_rfl) rd51 (.cons rfl (by kernel_rfl) rd3 (.cons rfl (by kernel_rfl) rd3 .nil)))
theorem rd81 : Rd Try.prog 81 (Rep.slice fragment_open.rep) (okL fragment_open.ok) := Rd.slice Try.underlying81 (by kernel_rfl) rfl rd92
theorem rd83 : Rd Try.prog 83 fragment_Assembler.rep fragment_Assembler.ok := Rd.struct _ (fun p => ⟨p.1, p.2.1⟩) (fun _ => rfl) Try.underlying83 (by kernel_rfl) (.cons rfl (by kernel_rfl) rd5 (.cons rfl (by kernel_rfl) rd81 .nil))
theorem rd53 : Rd Try.prog 53 ref22_Item.rep ref22_Item.ok := Rd.struct _ (fun p => ⟨p.1, p.2.1, p.2.2.1⟩) (fun _ => rfl) Try.underlying53 (by kernel_rfl) (.cons rfl (by kernel_rfl) rd51 (.cons rfl (by kernel_rfl) rd3 (.cons rfl (by kernel_rfl) rd3 .nil)))
theorem rd47 : Rd Try.prog 47 (Rep.slice ref22_Item.rep) (okL ref22_Item.ok) := Rd.slice Try.underlying47 (by kernel_rfl) rfl rd53
theorem rd49 : Rd Try.prog 49 ref22_Assembler.rep ref22_Assembler.ok := Rd.struct _ (fun p => ⟨p.1, p.2.1⟩) (fun _ => rfl) Try.underlying49 (by kernel_rfl) (.cons rfl (by kernel_rfl) rd5 (.cons rfl (by kernel_rfl) rd47 .nil))
theorem rd33 : Rd Try.prog 33 (Rep.slice (Rep.int .i64)) (okL (okI .i64)) := Rd.slice Try.underlying33 (by kernel_rfl) rfl rd3
theorem rd85 : Rd Try.prog 85 made_Dice.rep made_Dice.ok := Rd.struct _ (fun p => ⟨p.1, p.2.1⟩) (fun _ => rfl) Try.underlying85 (by kernel_rfl) (.cons rfl (by kernel_rfl) rd33 (.cons rfl (by kernel_rfl) rd3 .nil))
theorem rd94 : Rd Try.prog 94 Anon_af38c4.rep Anon_af38c4.ok := Rd.struct _ (fun p => ⟨p.1, p.2.1⟩) (fun _ => rfl) Try.underlying94 (by kernel_rfl) (.cons rfl (by kernel_rfl) rd4 (.cons rfl (by kernel_rfl) rd5 .nil))
end Lift
