/- What the walks ask of the table of types. Written by lift.py. -/
import Derived.Test.YtedddoifbhcinaaPlain
import Derived.Test.YtedddoifbhcinaaChecked
import Derived.Test.YtedddoifbhcinaaLiftX
set_option linter.unusedVariables false
set_option linter.unusedSimpArgs false
namespace Lift
open Go Go.Proofs
def bus_master.orepW (lf : ORep (List (List Int))) : ORep bus_master := (oiso (fun s : bus_master => (s.queue, s.tries, s.served, ())) (oprod lf (oprod (sh (Rep.int .i64)) (oprod (sh Rep.bool) ounit))))
def bus_master.hrepW (lf : Rep (List (List Int))) : Rep bus_master := (Rep.iso (fun s : bus_master => (s.queue, s.tries, s.served, ())) (Rep.prod lf (Rep.prod (Rep.int .i64) (Rep.prod Rep.bool Rep.unit))))
abbrev bus_master.own : ORep (List (List Int)) := oslice 34 1 (fun _ => sh (Rep.slice (Rep.int .u8)))
def bus_master.orep : ORep bus_master := bus_master.orepW bus_master.own
def bus_master.hrep : Rep bus_master := bus_master.hrepW Rep.hollow
theorem bus_master.wkW {lf : ORep (List (List Int))} {lg : Rep (List (List Int))} (h : Wk lf lg) : Wk (bus_master.orepW lf) (bus_master.hrepW lg) := (Wk.iso (Wk.prod h (Wk.prod Wk.sh (Wk.prod Wk.sh Wk.unit))))
theorem bus_master.wk : Wk bus_master.orep bus_master.hrep := bus_master.wkW Wk.own
theorem bus_master.rf : Rf bus_master.orep bus_master.rep := (Rf.iso (Rf.prod (Rf.own Rf.sh) (Rf.prod Rf.sh (Rf.prod Rf.sh Rf.unit))))
theorem bus_master.lenO (v : Value) {x : bus_master} : Len bus_master.orep (bus_master.orepW (raw v)) 0 bus_master.own (raw v) x x.queue (fun y_ => { x with queue := y_ }) := Len.off (Len.iso (fun s : bus_master => (s.queue, s.tries, s.served, ())) (Len.here (by rfl)) (fun _ => rfl) rfl) (by rfl)
theorem bus_master.lenC (v : Value) {x : bus_master} : Len (bus_master.orepW (raw v)) bus_master.orep 0 (raw v) bus_master.own x x.queue (fun y_ => { x with queue := y_ }) := Len.off (Len.iso (fun s : bus_master => (s.queue, s.tries, s.served, ())) (Len.here (by rfl)) (fun _ => rfl) rfl) (by rfl)
theorem bus_master.lenS {x : bus_master} : Len bus_master.orep bus_master.orep 0 bus_master.own bus_master.own x x.queue (fun y_ => { x with queue := y_ }) := Len.off (Len.iso (fun s : bus_master => (s.queue, s.tries, s.served, ())) (Len.here (by rfl)) (fun _ => rfl) rfl) (by rfl)
theorem bus_master.joW {P : Blks → Blks → World → Prop} {lf : ORep (List (List Int))} {lg : Rep (List (List Int))} {x : bus_master} {y_ : List (List Int)} (h : Jo P lg lf x.queue y_) : Jo P (bus_master.hrepW lg) (bus_master.orepW lf) x { x with queue := y_ } := (Jo.iso _ (Jo.here h (Jo.here Jo.sh (Jo.here Jo.sh Jo.unit))))
theorem bus_master.l1 {x : bus_master} : Len bus_master.orep bus_master.orep 1 (sh (Rep.int .i64)) (sh (Rep.int .i64)) x x.tries (fun y_ => { x with tries := y_ }) := Len.off (Len.iso (fun s : bus_master => (s.queue, s.tries, s.served, ())) (Len.there (Len.here (by rfl))) (fun _ => rfl) rfl) (by rfl)
theorem bus_master.l2 {x : bus_master} : Len bus_master.orep bus_master.orep 2 (sh Rep.bool) (sh Rep.bool) x x.served (fun y_ => { x with served := y_ }) := Len.off (Len.iso (fun s : bus_master => (s.queue, s.tries, s.served, ())) (Len.there (Len.there (Len.here (by rfl)))) (fun _ => rfl) rfl) (by rfl)
def ref21_Master.orepW (lf : ORep (List (List Int))) : ORep ref21_Master := (oiso (fun s : ref21_Master => (s.Queue, s.Tries, s.Served, ())) (oprod lf (oprod (sh (Rep.int .i64)) (oprod (sh Rep.bool) ounit))))
def ref21_Master.hrepW (lf : Rep (List (List Int))) : Rep ref21_Master := (Rep.iso (fun s : ref21_Master => (s.Queue, s.Tries, s.Served, ())) (Rep.prod lf (Rep.prod (Rep.int .i64) (Rep.prod Rep.bool Rep.unit))))
abbrev ref21_Master.own : ORep (List (List Int)) := oslice 34 1 (fun _ => sh (Rep.slice (Rep.int .u8)))
def ref21_Master.orep : ORep ref21_Master := ref21_Master.orepW ref21_Master.own
def ref21_Master.hrep : Rep ref21_Master := ref21_Master.hrepW Rep.hollow
theorem ref21_Master.wkW {lf : ORep (List (List Int))} {lg : Rep (List (List Int))} (h : Wk lf lg) : Wk (ref21_Master.orepW lf) (ref21_Master.hrepW lg) := (Wk.iso (Wk.prod h (Wk.prod Wk.sh (Wk.prod Wk.sh Wk.unit))))
theorem ref21_Master.wk : Wk ref21_Master.orep ref21_Master.hrep := ref21_Master.wkW Wk.own
theorem ref21_Master.rf : Rf ref21_Master.orep ref21_Master.rep := (Rf.iso (Rf.prod (Rf.own Rf.sh) (Rf.prod Rf.sh (Rf.prod Rf.sh Rf.unit))))
theorem ref21_Master.lenO (v : Value) {x : ref21_Master} : Len ref21_Master.orep (ref21_Master.orepW (raw v)) 0 ref21_Master.own (raw v) x x.Queue (fun y_ => { x with Queue := y_ }) := Len.off (Len.iso (fun s : ref21_Master => (s.Queue, s.Tries, s.Served, ())) (Len.here (by rfl)) (fun _ => rfl) rfl) (by rfl)
theorem ref21_Master.lenC (v : Value) {x : ref21_Master} : Len (ref21_Master.orepW (raw v)) ref21_Master.orep 0 (raw v) ref21_Master.own x x.Queue (fun y_ => { x with Queue := y_ }) := Len.off (Len.iso (fun s : ref21_Master => (s.Queue, s.Tries, s.Served, ())) (Len.here (by rfl)) (fun _ => rfl) rfl) (by rfl)
theorem ref21_Master.lenS {x : ref21_Master} : Len ref21_Master.orep ref21_Master.orep 0 ref21_Master.own ref21_Master.own x x.Queue (fun y_ => { x with Queue := y_ }) := Len.off (Len.iso (fun s : ref21_Master => (s.Queue, s.Tries, s.Served, ())) (Len.here (by rfl)) (fun _ => rfl) rfl) (by rfl)
theorem ref21_Master.joW {P : Blks → Blks → World → Prop} {lf : ORep (List (List Int))} {lg : Rep (List (List Int))} {x : ref21_Master} {y_ : List (List Int)} (h : Jo P lg lf x.Queue y_) : Jo P (ref21_Master.hrepW lg) (ref21_Master.orepW lf) x { x with Queue := y_ } := (Jo.iso _ (Jo.here h (Jo.here Jo.sh (Jo.here Jo.sh Jo.unit))))
theorem ref21_Master.l1 {x : ref21_Master} : Len ref21_Master.orep ref21_Master.orep 1 (sh (Rep.int .i64)) (sh (Rep.int .i64)) x x.Tries (fun y_ => { x with Tries := y_ }) := Len.off (Len.iso (fun s : ref21_Master => (s.Queue, s.Tries, s.Served, ())) (Len.there (Len.here (by rfl))) (fun _ => rfl) rfl) (by rfl)
theorem ref21_Master.l2 {x : ref21_Master} : Len ref21_Master.orep ref21_Master.orep 2 (sh Rep.bool) (sh Rep.bool) x x.Served (fun y_ => { x with Served := y_ }) := Len.off (Len.iso (fun s : ref21_Master => (s.Queue, s.Tries, s.Served, ())) (Len.there (Len.there (Len.here (by rfl)))) (fun _ => rfl) rfl) (by rfl)
abbrev Nest_ssuint8 := List (List Int)
def Nest_ssuint8.orepW (lf : ORep (List (List Int))) : ORep Nest_ssuint8 := lf
def Nest_ssuint8.hrepW (lf : Rep (List (List Int))) : Rep Nest_ssuint8 := lf
abbrev Nest_ssuint8.own : ORep (List (List Int)) := oslice 34 1 (fun _ => sh (Rep.slice (Rep.int .u8)))
def Nest_ssuint8.orep : ORep Nest_ssuint8 := Nest_ssuint8.orepW Nest_ssuint8.own
def Nest_ssuint8.hrep : Rep Nest_ssuint8 := Nest_ssuint8.hrepW Rep.hollow
theorem Nest_ssuint8.wkW {lf : ORep (List (List Int))} {lg : Rep (List (List Int))} (h : Wk lf lg) : Wk (Nest_ssuint8.orepW lf) (Nest_ssuint8.hrepW lg) := h
theorem Nest_ssuint8.wk : Wk Nest_ssuint8.orep Nest_ssuint8.hrep := Nest_ssuint8.wkW Wk.own
theorem Nest_ssuint8.rf : Rf Nest_ssuint8.orep (Rep.slice (Rep.slice (Rep.int .u8))) := (Rf.own Rf.sh)
theorem Nest_ssuint8.lenO (v : Value) {x : Nest_ssuint8} : Len Nest_ssuint8.orep (Nest_ssuint8.orepW (raw v)) 0 Nest_ssuint8.own (raw v) x x (fun y_ => y_) := Len.off (Len.id (by rfl)) (by rfl)
theorem Nest_ssuint8.lenC (v : Value) {x : Nest_ssuint8} : Len (Nest_ssuint8.orepW (raw v)) Nest_ssuint8.orep 0 (raw v) Nest_ssuint8.own x x (fun y_ => y_) := Len.off (Len.id (by rfl)) (by rfl)
theorem Nest_ssuint8.lenS {x : Nest_ssuint8} : Len Nest_ssuint8.orep Nest_ssuint8.orep 0 Nest_ssuint8.own Nest_ssuint8.own x x (fun y_ => y_) := Len.off (Len.id (by rfl)) (by rfl)
theorem Nest_ssuint8.joW {P : Blks → Blks → World → Prop} {lf : ORep (List (List Int))} {lg : Rep (List (List Int))} {x : Nest_ssuint8} {y_ : List (List Int)} (h : Jo P lg lf x y_) : Jo P (Nest_ssuint8.hrepW lg) (Nest_ssuint8.orepW lf) x y_ := h
theorem ty40 : Ty Try.prog 40 law21_Do.rep := ⟨⟨_, Try.underlying40, rfl⟩, by kernel_rfl, (fun h => Bool.noConfusion h)⟩
theorem fa40_2 : FA Try.prog 40 2 2 := ⟨_, _, Try.underlying40, rfl, rfl, by kernel_rfl⟩
theorem ty33 : Ty Try.prog 33 (Rep.slice (Rep.int .i64)) := ⟨⟨_, Try.underlying33, rfl⟩, by kernel_rfl, (fun _ => rfl)⟩
theorem fa40_3 : FA Try.prog 40 3 3 := ⟨_, _, Try.underlying40, rfl, rfl, by kernel_rfl⟩
theorem fa36_2 : FA Try.prog 36 2 2 := ⟨_, _, Try.underlying36, rfl, rfl, by kernel_rfl⟩
theorem ty34 : Ty Try.prog 34 (Rep.slice (Rep.int .u8)) := ⟨⟨_, Try.underlying34, rfl⟩, by kernel_rfl, (fun _ => rfl)⟩
theorem ti85 : TI Try.prog 85 (.agg #[.slice none 0 0, .int .i64 0, .bool false]) 3 40 := TI.of (by kernel_rfl)
theorem pl76 : PL Try.prog 76 [(0, 1)] := ⟨_, Try.underlying76, by kernel_rfl⟩
theorem ti76 : TI Try.prog 76 (.agg #[.slice none 0 0]) 1 24 := TI.of (by kernel_rfl)
theorem fa76_0 : FA Try.prog 76 0 0 := ⟨_, _, Try.underlying76, rfl, rfl, by kernel_rfl⟩
theorem ty74 : Ty Try.prog 74 (Rep.slice bus_master.rep) := ⟨⟨_, Try.underlying74, rfl⟩, by kernel_rfl, (fun _ => rfl)⟩
theorem fa36_0 : FA Try.prog 36 0 0 := ⟨_, _, Try.underlying36, rfl, rfl, by kernel_rfl⟩
theorem ty5 : Ty Try.prog 5 (Rep.int .u8) := ⟨⟨_, Try.underlying5, rfl⟩, by kernel_rfl, (fun _ => rfl)⟩
theorem fa36_1 : FA Try.prog 36 1 1 := ⟨_, _, Try.underlying36, rfl, rfl, by kernel_rfl⟩
theorem ti5 : TI Try.prog 5 (.int .u8 0) 1 1 := TI.of (by kernel_rfl)
theorem ty36 : Ty Try.prog 36 Frame_.rep := ⟨⟨_, Try.underlying36, rfl⟩, by kernel_rfl, (fun h => Bool.noConfusion h)⟩
theorem sz85 : (Try.prog.info? 85).map (·.size) = some 3 := by kernel_rfl
theorem fa85_0 : FA Try.prog 85 0 0 := ⟨_, _, Try.underlying85, rfl, rfl, by kernel_rfl⟩
theorem ty59 : Ty Try.prog 59 (Rep.slice (Rep.slice (Rep.int .u8))) := ⟨⟨_, Try.underlying59, rfl⟩, by kernel_rfl, (fun _ => rfl)⟩
theorem ti34 : TI Try.prog 34 (.slice none 0 0) 1 24 := TI.of (by kernel_rfl)
theorem Try_mixed : Try.prog.follows .mixedOrders = true := Try.checked.mixed
theorem ty85 : Ty Try.prog 85 bus_master.rep := ⟨⟨_, Try.underlying85, rfl⟩, by kernel_rfl, (fun h => Bool.noConfusion h)⟩
theorem ti3 : TI Try.prog 3 (.int .i64 0) 1 8 := TI.of (by kernel_rfl)
theorem fa85_2 : FA Try.prog 85 2 2 := ⟨_, _, Try.underlying85, rfl, rfl, by kernel_rfl⟩
theorem ty4 : Ty Try.prog 4 Rep.bool := ⟨⟨_, Try.underlying4, rfl⟩, by kernel_rfl, (fun _ => rfl)⟩
theorem ext60 : Extern.find Try.f60 = some Extern.BytealgCompare.compare := by kernel_rfl
theorem ext60n : Extern.findNext Try.f60 = none := by kernel_rfl
theorem fa38_0 : FA Try.prog 38 0 0 := ⟨_, _, Try.underlying38, rfl, rfl, by kernel_rfl⟩
theorem ty3 : Ty Try.prog 3 (Rep.int .i64) := ⟨⟨_, Try.underlying3, rfl⟩, by kernel_rfl, (fun _ => rfl)⟩
theorem fa38_1 : FA Try.prog 38 1 1 := ⟨_, _, Try.underlying38, rfl, rfl, by kernel_rfl⟩
theorem fa38_2 : FA Try.prog 38 2 2 := ⟨_, _, Try.underlying38, rfl, rfl, by kernel_rfl⟩
theorem ti36 : TI Try.prog 36 (.agg #[.int .u8 0, .int .u8 0, .slice none 0 0]) 3 32 := TI.of (by kernel_rfl)
theorem pl36 : PL Try.prog 36 [(0, 1), (1, 1), (2, 1)] := ⟨_, Try.underlying36, by kernel_rfl⟩
theorem tyf25 {v : Value} : Ty Try.prog 25 (Rep.raw (α := Unit) v) := ⟨⟨_, Try.underlying25, rfl⟩, by kernel_rfl, fun _ => rfl⟩
theorem ti46 : TI Try.prog 46 (.agg #[.slice none 0 0, .slice none 0 0, .bool false, .slice none 0 0]) 4 80 := TI.of (by kernel_rfl)
theorem pl46 : PL Try.prog 46 [(0, 1), (1, 1), (2, 1), (3, 1)] := ⟨_, Try.underlying46, by kernel_rfl⟩
theorem ty46 : Ty Try.prog 46 Delivery_.rep := ⟨⟨_, Try.underlying46, rfl⟩, by kernel_rfl, (fun h => Bool.noConfusion h)⟩
theorem ti82 : TI Try.prog 82 (.nilFunc) 1 8 := TI.of (by kernel_rfl)
theorem tyf82 {v : Value} : Ty Try.prog 82 (Rep.raw (α := Unit) v) := ⟨⟨_, Try.underlying82, rfl⟩, by kernel_rfl, fun _ => rfl⟩
theorem sz34 : (Try.prog.info? 34).map (·.size) = some 1 := by kernel_rfl
theorem ty38 : Ty Try.prog 38 Fault_.rep := ⟨⟨_, Try.underlying38, rfl⟩, by kernel_rfl, (fun h => Bool.noConfusion h)⟩
theorem fa46_1 : FA Try.prog 46 1 1 := ⟨_, _, Try.underlying46, rfl, rfl, by kernel_rfl⟩
theorem fa46_2 : FA Try.prog 46 2 2 := ⟨_, _, Try.underlying46, rfl, rfl, by kernel_rfl⟩
theorem fa46_0 : FA Try.prog 46 0 0 := ⟨_, _, Try.underlying46, rfl, rfl, by kernel_rfl⟩
theorem fa85_1 : FA Try.prog 85 1 1 := ⟨_, _, Try.underlying85, rfl, rfl, by kernel_rfl⟩
theorem fa46_3 : FA Try.prog 46 3 3 := ⟨_, _, Try.underlying46, rfl, rfl, by kernel_rfl⟩
theorem pl38 : PL Try.prog 38 [(0, 1), (1, 1), (2, 1)] := ⟨_, Try.underlying38, by kernel_rfl⟩
theorem ti38 : TI Try.prog 38 (.agg #[.int .i64 0, .int .i64 0, .int .u8 0]) 3 24 := TI.of (by kernel_rfl)
theorem ti87 : TI Try.prog 87 (.agg #[.slice none 0 0, .int .i64 0, .bool false]) 3 40 := TI.of (by kernel_rfl)
theorem pl79 : PL Try.prog 79 [(0, 1)] := ⟨_, Try.underlying79, by kernel_rfl⟩
theorem ti79 : TI Try.prog 79 (.agg #[.slice none 0 0]) 1 24 := TI.of (by kernel_rfl)
theorem pl81 : PL Try.prog 81 [(0, 1), (1, 1)] := ⟨_, Try.underlying81, by kernel_rfl⟩
theorem ti81 : TI Try.prog 81 (.agg #[.slice none 0 0, .int .i64 0]) 2 32 := TI.of (by kernel_rfl)
theorem fa81_1 : FA Try.prog 81 1 1 := ⟨_, _, Try.underlying81, rfl, rfl, by kernel_rfl⟩
theorem fa81_0 : FA Try.prog 81 0 0 := ⟨_, _, Try.underlying81, rfl, rfl, by kernel_rfl⟩
theorem ti102 : TI Try.prog 102 (.agg #[.int .u8 0, .int .u8 0, .int .u8 0, .int .u8 0, .int .u8 0, .int .u8 0, .int .u8 0, .int .u8 0]) 8 8 := TI.of (by kernel_rfl)
theorem ty102 : Ty Try.prog 102 (Rep.arr 8 (Rep.int .u8)) := ⟨⟨_, Try.underlying102, rfl⟩, by kernel_rfl, (fun h => Bool.noConfusion h)⟩
theorem fa79_0 : FA Try.prog 79 0 0 := ⟨_, _, Try.underlying79, rfl, rfl, by kernel_rfl⟩
theorem ty77 : Ty Try.prog 77 (Rep.slice ref21_Master.rep) := ⟨⟨_, Try.underlying77, rfl⟩, by kernel_rfl, (fun _ => rfl)⟩
theorem sz87 : (Try.prog.info? 87).map (·.size) = some 3 := by kernel_rfl
theorem fa87_0 : FA Try.prog 87 0 0 := ⟨_, _, Try.underlying87, rfl, rfl, by kernel_rfl⟩
theorem fa87_2 : FA Try.prog 87 2 2 := ⟨_, _, Try.underlying87, rfl, rfl, by kernel_rfl⟩
theorem fa87_1 : FA Try.prog 87 1 1 := ⟨_, _, Try.underlying87, rfl, rfl, by kernel_rfl⟩
theorem ti40 : TI Try.prog 40 (.agg #[.int .i64 0, .int .i64 0, .slice none 0 0, .int .u8 0, .int .u8 0, .slice none 0 0, .int .i64 0, .int .i64 0, .int .u8 0]) 9 96 := TI.of (by kernel_rfl)
theorem fa40_1 : FA Try.prog 40 1 1 := ⟨_, _, Try.underlying40, rfl, rfl, by kernel_rfl⟩
theorem fa40_0 : FA Try.prog 40 0 0 := ⟨_, _, Try.underlying40, rfl, rfl, by kernel_rfl⟩
theorem fa40_4 : FA Try.prog 40 4 6 := ⟨_, _, Try.underlying40, rfl, rfl, by kernel_rfl⟩
theorem ti59 : TI Try.prog 59 (.slice none 0 0) 1 24 := TI.of (by kernel_rfl)
theorem sz59 : (Try.prog.info? 59).map (·.size) = some 1 := by kernel_rfl
theorem ti58 : TI Try.prog 58 (.agg #[.int .i64 0, .int .i64 0, .int .i64 0, .int .i64 0, .int .i64 0, .int .i64 0, .int .i64 0, .int .i64 0, .int .i64 0, .int .i64 0, .int .i64 0, .int .i64 0, .int .i64 0, .int .i64 0, .int .i64 0, .int .i64 0, .int .i64 0, .int .i64 0, .int .i64 0, .int .i64 0, .int .i64 0, .int .i64 0, .int .i64 0, .int .i64 0, .int .i64 0, .int .i64 0, .int .i64 0, .int .i64 0, .int .i64 0, .int .i64 0, .int .i64 0, .int .i64 0, .int .i64 0, .int .i64 0, .int .i64 0, .int .i64 0, .int .i64 0, .int .i64 0, .int .i64 0, .int .i64 0, .int .i64 0, .int .i64 0, .int .i64 0, .int .i64 0, .int .i64 0, .int .i64 0, .int .i64 0, .int .i64 0, .int .i64 0, .int .i64 0, .int .i64 0, .int .i64 0, .int .i64 0, .int .i64 0, .int .i64 0, .int .i64 0, .int .i64 0, .int .i64 0, .int .i64 0, .int .i64 0, .int .i64 0, .int .i64 0, .int .i64 0, .int .i64 0]) 64 512 := TI.of (by kernel_rfl)
theorem ty57 : Ty Try.prog 57 (Rep.arr 8 (Rep.int .i64)) := ⟨⟨_, Try.underlying57, rfl⟩, by kernel_rfl, (fun h => Bool.noConfusion h)⟩
theorem ti57 : TI Try.prog 57 (.agg #[.int .i64 0, .int .i64 0, .int .i64 0, .int .i64 0, .int .i64 0, .int .i64 0, .int .i64 0, .int .i64 0]) 8 64 := TI.of (by kernel_rfl)
theorem rd5 : Rd Try.prog 5 (.int .u8) (okI .u8) := Rd.int Try.underlying5
theorem rd34 : Rd Try.prog 34 (Rep.slice (Rep.int .u8)) (okL (okI .u8)) := Rd.slice Try.underlying34 (by kernel_rfl) rfl rd5
theorem rd36 : Rd Try.prog 36 Frame_.rep Frame_.ok := Rd.struct _ (fun p => ⟨p.1, p.2.1, p.2.2.1⟩) (fun _ => rfl) Try.underlying36 (by kernel_rfl) (.cons rfl (by kernel_rfl) rd5 (.cons rfl (by kernel_rfl) rd5 (.cons rfl (by kernel_rfl) rd34 .nil)))
theorem rd3 : Rd Try.prog 3 (.int .i64) (okI .i64) := Rd.int Try.underlying3
theorem rd38 : Rd Try.prog 38 Fault_.rep Fault_.ok := Rd.struct _ (fun p => ⟨p.1, p.2.1, p.2.2.1⟩) (fun _ => rfl) Try.underlying38 (by kernel_rfl) (.cons rfl (by kernel_rfl) rd3 (.cons rfl (by kernel_rfl) rd3 (.cons rfl (by kernel_rfl) rd5 .nil)))
theorem rd33 : Rd Try.prog 33 (Rep.slice (Rep.int .i64)) (okL (okI .i64)) := Rd.slice Try.underlying33 (by kernel_rfl) rfl rd3
theorem rd40 : Rd Try.prog 40 law21_Do.rep law21_Do.ok := Rd.struct _ (fun p => ⟨p.1, p.2.1, p.2.2.1, p.2.2.2.1, p.2.2.2.2.1⟩) (fun _ => rfl) Try.underlying40 (by kernel_rfl) (.cons rfl (by kernel_rfl) rd3 (.cons rfl (by kernel_rfl) rd3 (.cons rfl (by kernel_rfl) rd33 (.cons rfl (by kernel_rfl) rd36 (.cons rfl (by kernel_rfl) rd38 .nil)))))
theorem rd59 : Rd Try.prog 59 (Rep.slice (Rep.slice (Rep.int .u8))) (okL (okL (okI .u8))) := Rd.slice Try.underlying59 (by kernel_rfl) rfl rd34
theorem rd4 : Rd Try.prog 4 .bool (fun _ => True) := Rd.bool Try.underlying4
theorem rd85 : Rd Try.prog 85 bus_master.rep bus_master.ok := Rd.struct _ (fun p => ⟨p.1, p.2.1, p.2.2.1⟩) (fun _ => rfl) Try.underlying85 (by kernel_rfl) (.cons rfl (by kernel_rfl) rd59 (.cons rfl (by kernel_rfl) rd3 (.cons rfl (by kernel_rfl) rd4 .nil)))
theorem rd74 : Rd Try.prog 74 (Rep.slice bus_master.rep) (okL bus_master.ok) := Rd.slice Try.underlying74 (by kernel_rfl) rfl rd85
theorem rd76 : Rd Try.prog 76 bus_Bus.rep bus_Bus.ok := Rd.struct _ (fun p => ⟨p.1⟩) (fun _ => rfl) Try.underlying76 (by kernel_rfl) (.cons rfl (by kernel_rfl) rd74 .nil)
theorem rd46 : Rd Try.prog 46 Delivery_.rep Delivery_.ok := Rd.struct _ (fun p => ⟨p.1, p.2.1, p.2.2.1, p.2.2.2.1⟩) (fun _ => rfl) Try.underlying46 (by kernel_rfl) (.cons rfl (by kernel_rfl) rd33 (.cons rfl (by kernel_rfl) rd34 (.cons rfl (by kernel_rfl) rd4 (.cons rfl (by kernel_rfl) rd33 .nil))))
theorem rd87 : Rd Try.prog 87 ref21_Master.rep ref21_Master.ok := Rd.struct _ (fun p => ⟨p.1, p.2.1, p.2.2.1⟩) (fun _ => rfl) Try.underlying87 (by kernel_rfl) (.cons rfl (by kernel_rfl) rd59 (.cons rfl (by kernel_rfl) rd3 (.cons rfl (by kernel_rfl) rd4 .nil)))
theorem rd77 : Rd Try.prog 77 (Rep.slice ref21_Master.rep) (okL ref21_Master.ok) := Rd.slice Try.underlying77 (by kernel_rfl) rfl rd87
theorem rd79 : Rd Try.prog 79 ref21_Bus.rep ref21_Bus.ok := Rd.struct _ (fun p => ⟨p.1⟩) (fun _ => rfl) Try.underlying79 (by kernel_rfl) (.cons rfl (by kernel_rfl) rd77 .nil)
theorem rd81 : Rd Try.prog 81 made_Dice.rep made_Dice.ok := Rd.struct _ (fun p => ⟨p.1, p.2.1⟩) (fun _ => rfl) Try.underlying81 (by kernel_rfl) (.cons rfl (by kernel_rfl) rd33 (.cons rfl (by kernel_rfl) rd3 .nil))
end Lift
