import Derived.Test.YtahlmfpllhmjoaaGreatDoorPlain
import Derived.Test.YtahlmfpllhmjoaaGreatDoorChecked
set_option linter.unusedVariables false
set_option linter.unusedSimpArgs false
namespace Lift
open Go Go.Proofs
abbrev monitor_Monitor.repW (w0_ w1_:Value):Rep monitor_Monitor:=Rep.iso (λ s:monitor_Monitor=>(s.sensors,s.l,s.filters,s.states,())) (Rep.prod (Rep.slice Sensor_.rep) (Rep.prod (Rep.slice Association_.rep) (Rep.prod (Rep.raw (α:=List Filter_) w0_) (Rep.prod (Rep.raw (α:=List Int) w1_) Rep.unit))))
abbrev monitor_Monitor.mem (q_:Value) (x_:monitor_Monitor):HAtom:=.ex λ w0_=>.ex λ w1_=>.sep (.box 184 (monitor_Monitor.repW w0_ w1_) q_ x_) (.sep (.slice 188 Filter_.rep w0_ x_.filters) (.slice 49 (Rep.int .u16) w1_ x_.states))
abbrev flash_Device.repW (w0_ w1_:Value):Rep flash_Device:=Rep.iso (λ s:flash_Device=>(s.size,s.bytes,s.wear,s.steps,s.left,s.torn,s.down,())) (Rep.prod (Rep.int .i64) (Rep.prod (Rep.raw (α:=List Int) w0_) (Rep.prod (Rep.raw (α:=List Int) w1_) (Rep.prod (Rep.int .i64) (Rep.prod (Rep.int .i64) (Rep.prod (Rep.int .u8) (Rep.prod Rep.bool Rep.unit)))))))
abbrev flash_Device.mem (q_:Value) (x_:flash_Device):HAtom:=.ex λ w0_=>.ex λ w1_=>.sep (.box 166 (flash_Device.repW w0_ w1_) q_ x_) (.sep (.slice 5 (Rep.int .u8) w0_ x_.bytes) (.slice 3 (Rep.int .i64) w1_ x_.wear))
abbrev eventlog_Log.repW (w0_ w1_:Value):Rep eventlog_Log:=Rep.iso (λ s:eventlog_Log=>(s.d,s.first,s.sectors,s.overwrite,s.newest,s.tail,s.used,s.next,s.records,s.full,s.number,s.held,s.ended,())) (Rep.prod (Rep.raw (α:=Bool) w0_) (Rep.prod (Rep.int .i64) (Rep.prod (Rep.int .i64) (Rep.prod Rep.bool (Rep.prod (Rep.int .i64) (Rep.prod (Rep.int .i64) (Rep.prod (Rep.int .i64) (Rep.prod (Rep.int .u16) (Rep.prod (Rep.raw (α:=List eventlog_record) w1_) (Rep.prod Rep.bool (Rep.prod (Rep.int .u16) (Rep.prod Rep.bool (Rep.prod Rep.bool Rep.unit)))))))))))))
abbrev eventlog_Log.mem (l_:Value) (q_:Value) (x_:eventlog_Log):HAtom:=.ex λ w0_=>.ex λ w1_=>.sep (.box 169 (eventlog_Log.repW w0_ w1_) q_ x_) (.sep (.lnk l_ w0_ x_.d) (.slice 200 eventlog_record.rep w1_ x_.records))
def bus_master.orepW (lf:ORep (List (List Int))):ORep bus_master:=(oiso (λ s:bus_master=>(s.queue,s.tries,s.served,())) (oprod lf (oprod (sh (Rep.int .i64)) (oprod (sh Rep.bool) ounit))))
def bus_master.hrepW (lf:Rep (List (List Int))):Rep bus_master:=(Rep.iso (λ s:bus_master=>(s.queue,s.tries,s.served,())) (Rep.prod lf (Rep.prod (Rep.int .i64) (Rep.prod Rep.bool Rep.unit))))
abbrev bus_master.own:ORep (List (List Int)):=oslice 24 1 (λ _=>sh (Rep.slice (Rep.int .u8)))
def bus_master.orep:ORep bus_master:=bus_master.orepW bus_master.own
def bus_master.hrep:Rep bus_master:=bus_master.hrepW Rep.hollow
theorem bus_master.wkW {lf:ORep (List (List Int))} {lg:Rep (List (List Int))} (h:Wk lf lg):Wk (bus_master.orepW lf) (bus_master.hrepW lg):=(Wk.iso (Wk.prod h (Wk.prod Wk.sh (Wk.prod Wk.sh Wk.unit))))
theorem bus_master.wk:Wk bus_master.orep bus_master.hrep:=bus_master.wkW Wk.own
theorem bus_master.lenO (v:Value) {x:bus_master}:Len bus_master.orep (bus_master.orepW (raw v)) 0 bus_master.own (raw v) x x.queue (λ y_=>{ x with queue:=y_ }):=Len.off (Len.iso (λ s:bus_master=>(s.queue,s.tries,s.served,())) (Len.here (by rfl)) (λ _=>rfl) rfl) (by rfl)
theorem bus_master.lenC (v:Value) {x:bus_master}:Len (bus_master.orepW (raw v)) bus_master.orep 0 (raw v) bus_master.own x x.queue (λ y_=>{ x with queue:=y_ }):=Len.off (Len.iso (λ s:bus_master=>(s.queue,s.tries,s.served,())) (Len.here (by rfl)) (λ _=>rfl) rfl) (by rfl)
theorem bus_master.joW {P:Blks→Blks→World→Prop} {lf:ORep (List (List Int))} {lg:Rep (List (List Int))} {x:bus_master} {y_:List (List Int)} (h:Jo P lg lf x.queue y_):Jo P (bus_master.hrepW lg) (bus_master.orepW lf) x { x with queue:=y_ }:=(Jo.iso _ (Jo.here h (Jo.here Jo.sh (Jo.here Jo.sh Jo.unit))))
theorem bus_master.l1 {x:bus_master}:Len bus_master.orep bus_master.orep 1 (sh (Rep.int .i64)) (sh (Rep.int .i64)) x x.tries (λ y_=>{ x with tries:=y_ }):=Len.off (Len.iso (λ s:bus_master=>(s.queue,s.tries,s.served,())) (Len.there (Len.here (by rfl))) (λ _=>rfl) rfl) (by rfl)
theorem bus_master.l2 {x:bus_master}:Len bus_master.orep bus_master.orep 2 (sh Rep.bool) (sh Rep.bool) x x.served (λ y_=>{ x with served:=y_ }):=Len.off (Len.iso (λ s:bus_master=>(s.queue,s.tries,s.served,())) (Len.there (Len.there (Len.here (by rfl)))) (λ _=>rfl) rfl) (by rfl)
abbrev bus_Bus.repW (w0_:Value):Rep bus_Bus:=Rep.iso (λ s:bus_Bus=>(s.masters,())) (Rep.prod (Rep.raw (α:=List bus_master) w0_) Rep.unit)
abbrev bus_Bus.mem (q_:Value) (x_:bus_Bus):HAtom:=.ex λ w0_=>.sep (.box 241 (bus_Bus.repW w0_) q_ x_) (.oval (oslice 256 3 (λ _=>bus_master.orep)) w0_ x_.masters)
def fragment_open.orepW (lf:ORep (List Int)):ORep fragment_open:=(oiso (λ s:fragment_open=>(s.whole,s.size,s.last,())) (oprod (oiso (λ s:Whole_=>(s.From,s.Owner,s.Tag,s.Data,())) (oprod (sh (Rep.int .u8)) (oprod (sh Rep.bool) (oprod (sh (Rep.int .i64)) (oprod lf ounit))))) (oprod (sh (Rep.int .i64)) (oprod (sh (Rep.int .i64)) ounit))))
def fragment_open.hrepW (lf:Rep (List Int)):Rep fragment_open:=(Rep.iso (λ s:fragment_open=>(s.whole,s.size,s.last,())) (Rep.prod (Rep.iso (λ s:Whole_=>(s.From,s.Owner,s.Tag,s.Data,())) (Rep.prod (Rep.int .u8) (Rep.prod Rep.bool (Rep.prod (Rep.int .i64) (Rep.prod lf Rep.unit))))) (Rep.prod (Rep.int .i64) (Rep.prod (Rep.int .i64) Rep.unit))))
abbrev fragment_open.own:ORep (List Int):=oslice 5 1 (λ _=>sh (Rep.int .u8))
def fragment_open.orep:ORep fragment_open:=fragment_open.orepW fragment_open.own
def fragment_open.hrep:Rep fragment_open:=fragment_open.hrepW Rep.hollow
theorem fragment_open.wkW {lf:ORep (List Int)} {lg:Rep (List Int)} (h:Wk lf lg):Wk (fragment_open.orepW lf) (fragment_open.hrepW lg):=(Wk.iso (Wk.prod (Wk.iso (Wk.prod Wk.sh (Wk.prod Wk.sh (Wk.prod Wk.sh (Wk.prod h Wk.unit))))) (Wk.prod Wk.sh (Wk.prod Wk.sh Wk.unit))))
theorem fragment_open.wk:Wk fragment_open.orep fragment_open.hrep:=fragment_open.wkW Wk.own
theorem fragment_open.rf:Rf fragment_open.orep fragment_open.rep:=(Rf.iso (Rf.prod (Rf.iso (Rf.prod Rf.sh (Rf.prod Rf.sh (Rf.prod Rf.sh (Rf.prod (Rf.own Rf.sh) Rf.unit))))) (Rf.prod Rf.sh (Rf.prod Rf.sh Rf.unit))))
theorem fragment_open.lenO (v:Value) {x:fragment_open}:Len fragment_open.orep (fragment_open.orepW (raw v)) 3 fragment_open.own (raw v) x x.whole.Data (λ y_=>{ x with whole:={ x.whole with Data:=y_ } }):=Len.off (Len.iso (λ s:fragment_open=>(s.whole,s.size,s.last,())) (Len.comp (Len.here (by rfl)) (Len.iso (λ s:Whole_=>(s.From,s.Owner,s.Tag,s.Data,())) (Len.there (Len.there (Len.there (Len.here (by rfl))))) (λ _=>rfl) rfl)) (λ _=>rfl) rfl) (by rfl)
theorem fragment_open.lenC (v:Value) {x:fragment_open}:Len (fragment_open.orepW (raw v)) fragment_open.orep 3 (raw v) fragment_open.own x x.whole.Data (λ y_=>{ x with whole:={ x.whole with Data:=y_ } }):=Len.off (Len.iso (λ s:fragment_open=>(s.whole,s.size,s.last,())) (Len.comp (Len.here (by rfl)) (Len.iso (λ s:Whole_=>(s.From,s.Owner,s.Tag,s.Data,())) (Len.there (Len.there (Len.there (Len.here (by rfl))))) (λ _=>rfl) rfl)) (λ _=>rfl) rfl) (by rfl)
theorem fragment_open.joW {P:Blks→Blks→World→Prop} {lf:ORep (List Int)} {lg:Rep (List Int)} {x:fragment_open} {y_:List Int} (h:Jo P lg lf x.whole.Data y_):Jo P (fragment_open.hrepW lg) (fragment_open.orepW lf) x { x with whole:={ x.whole with Data:=y_ } }:=(Jo.iso _ (Jo.here (Jo.iso _ (Jo.there Jo.sh (Jo.there Jo.sh (Jo.there Jo.sh (Jo.here h Jo.unit))))) (Jo.here Jo.sh (Jo.here Jo.sh Jo.unit))))
theorem fragment_open.l2 {x:fragment_open}:Len fragment_open.orep fragment_open.orep 5 (sh (Rep.int .i64)) (sh (Rep.int .i64)) x x.last (λ y_=>{ x with last:=y_ }):=Len.off (Len.iso (λ s:fragment_open=>(s.whole,s.size,s.last,())) (Len.there (Len.there (Len.here (by rfl)))) (λ _=>rfl) rfl) (by rfl)
abbrev fragment_Assembler.repW (w0_:Value):Rep fragment_Assembler:=Rep.iso (λ s:fragment_Assembler=>(s.own,s.open_,())) (Rep.prod (Rep.int .u8) (Rep.prod (Rep.raw (α:=List fragment_open) w0_) Rep.unit))
abbrev fragment_Assembler.mem (q_:Value) (x_:fragment_Assembler):HAtom:=.ex λ w0_=>.sep (.box 245 (fragment_Assembler.repW w0_) q_ x_) (.oval (oslice 267 6 (λ _=>fragment_open.orep)) w0_ x_.open_)
def Whole_.orepW (lf:ORep (List Int)):ORep Whole_:=(oiso (λ s:Whole_=>(s.From,s.Owner,s.Tag,s.Data,())) (oprod (sh (Rep.int .u8)) (oprod (sh Rep.bool) (oprod (sh (Rep.int .i64)) (oprod lf ounit)))))
def Whole_.hrepW (lf:Rep (List Int)):Rep Whole_:=(Rep.iso (λ s:Whole_=>(s.From,s.Owner,s.Tag,s.Data,())) (Rep.prod (Rep.int .u8) (Rep.prod Rep.bool (Rep.prod (Rep.int .i64) (Rep.prod lf Rep.unit)))))
abbrev Whole_.own:ORep (List Int):=oslice 5 1 (λ _=>sh (Rep.int .u8))
def Whole_.orep:ORep Whole_:=Whole_.orepW Whole_.own
theorem Whole_.wkW {lf:ORep (List Int)} {lg:Rep (List Int)} (h:Wk lf lg):Wk (Whole_.orepW lf) (Whole_.hrepW lg):=(Wk.iso (Wk.prod Wk.sh (Wk.prod Wk.sh (Wk.prod Wk.sh (Wk.prod h Wk.unit)))))
theorem Whole_.lenO (v:Value) {x:Whole_}:Len Whole_.orep (Whole_.orepW (raw v)) 3 Whole_.own (raw v) x x.Data (λ y_=>{ x with Data:=y_ }):=Len.off (Len.iso (λ s:Whole_=>(s.From,s.Owner,s.Tag,s.Data,())) (Len.there (Len.there (Len.there (Len.here (by rfl))))) (λ _=>rfl) rfl) (by rfl)
theorem Whole_.joW {P:Blks→Blks→World→Prop} {lf:ORep (List Int)} {lg:Rep (List Int)} {x:Whole_} {y_:List Int} (h:Jo P lg lf x.Data y_):Jo P (Whole_.hrepW lg) (Whole_.orepW lf) x { x with Data:=y_ }:=(Jo.iso _ (Jo.there Jo.sh (Jo.there Jo.sh (Jo.there Jo.sh (Jo.here h Jo.unit)))))
abbrev Nest_sapi_Message:=List Message_
def Nest_sapi_Message.orepW (lf:ORep (List Message_)):ORep Nest_sapi_Message:=lf
def Nest_sapi_Message.hrepW (lf:Rep (List Message_)):Rep Nest_sapi_Message:=lf
abbrev Nest_sapi_Message.own:ORep (List Message_):=oslice 130 9 (λ _=>sh Message_.rep)
def Nest_sapi_Message.orep:ORep Nest_sapi_Message:=Nest_sapi_Message.orepW Nest_sapi_Message.own
theorem Nest_sapi_Message.rf:Rf Nest_sapi_Message.orep (Rep.slice Message_.rep):=(Rf.own Rf.sh)
theorem Nest_sapi_Message.lenO (v:Value) {x:Nest_sapi_Message}:Len Nest_sapi_Message.orep (Nest_sapi_Message.orepW (raw v)) 0 Nest_sapi_Message.own (raw v) x x (λ y_=>y_):=Len.off (Len.id (by rfl)) (by rfl)
theorem Nest_sapi_Message.lenC (v:Value) {x:Nest_sapi_Message}:Len (Nest_sapi_Message.orepW (raw v)) Nest_sapi_Message.orep 0 (raw v) Nest_sapi_Message.own x x (λ y_=>y_):=Len.off (Len.id (by rfl)) (by rfl)
theorem Nest_sapi_Message.joW {P:Blks→Blks→World→Prop} {lf:ORep (List Message_)} {lg:Rep (List Message_)} {x:Nest_sapi_Message} {y_:List Message_} (h:Jo P lg lf x y_):Jo P (Nest_sapi_Message.hrepW lg) (Nest_sapi_Message.orepW lf) x y_:=h
theorem fa69_0:FA Tryz.prog 69 0 0:=⟨_,_,Tryz.underlying69,rfl,rfl,by kernel_rfl⟩
theorem ty3:Ty Tryz.prog 3 (Rep.int .i64):=⟨⟨_,Tryz.underlying3,rfl⟩,by kernel_rfl,(λ _=>rfl)⟩
theorem fa69_2:FA Tryz.prog 69 2 2:=⟨_,_,Tryz.underlying69,rfl,rfl,by kernel_rfl⟩
theorem fa69_3:FA Tryz.prog 69 3 3:=⟨_,_,Tryz.underlying69,rfl,rfl,by kernel_rfl⟩
theorem fa69_4:FA Tryz.prog 69 4 4:=⟨_,_,Tryz.underlying69,rfl,rfl,by kernel_rfl⟩
theorem fa69_5:FA Tryz.prog 69 5 5:=⟨_,_,Tryz.underlying69,rfl,rfl,by kernel_rfl⟩
theorem fa69_6:FA Tryz.prog 69 6 6:=⟨_,_,Tryz.underlying69,rfl,rfl,by kernel_rfl⟩
theorem ty67:Ty Tryz.prog 67 (Rep.slice Point_.rep):=⟨⟨_,Tryz.underlying67,rfl⟩,by kernel_rfl,(λ _=>rfl)⟩
theorem ti3:TI Tryz.prog 3 (.int .i64 0) 1 8:=TI.of (by kernel_rfl)
theorem fa74_7:FA Tryz.prog 74 7 14:=⟨_,_,Tryz.underlying74,rfl,rfl,by kernel_rfl⟩
theorem fa72_0:FA Tryz.prog 72 0 0:=⟨_,_,Tryz.underlying72,rfl,rfl,by kernel_rfl⟩
theorem ty5:Ty Tryz.prog 5 (Rep.int .u8):=⟨⟨_,Tryz.underlying5,rfl⟩,by kernel_rfl,(λ _=>rfl)⟩
theorem fa74_6:FA Tryz.prog 74 6 7:=⟨_,_,Tryz.underlying74,rfl,rfl,by kernel_rfl⟩
theorem fa69_1:FA Tryz.prog 69 1 1:=⟨_,_,Tryz.underlying69,rfl,rfl,by kernel_rfl⟩
theorem ty4:Ty Tryz.prog 4 Rep.bool:=⟨⟨_,Tryz.underlying4,rfl⟩,by kernel_rfl,(λ _=>rfl)⟩
theorem fa72_1:FA Tryz.prog 72 1 1:=⟨_,_,Tryz.underlying72,rfl,rfl,by kernel_rfl⟩
theorem Try_mixed:Tryz.prog.follows .mixedOrders=true:=Tryz.checked.mixed
theorem ty69:Ty Tryz.prog 69 Conversion_.rep:=⟨⟨_,Tryz.underlying69,rfl⟩,by kernel_rfl,(λ h=>Bool.noConfusion h)⟩
theorem fa74_10:FA Tryz.prog 74 10 23:=⟨_,_,Tryz.underlying74,rfl,rfl,by kernel_rfl⟩
theorem ty49:Ty Tryz.prog 49 (Rep.int .u16):=⟨⟨_,Tryz.underlying49,rfl⟩,by kernel_rfl,(λ _=>rfl)⟩
theorem fa74_11:FA Tryz.prog 74 11 24:=⟨_,_,Tryz.underlying74,rfl,rfl,by kernel_rfl⟩
theorem fa74_12:FA Tryz.prog 74 12 25:=⟨_,_,Tryz.underlying74,rfl,rfl,by kernel_rfl⟩
theorem ty70:Ty Tryz.prog 70 (Rep.arr 6 (Rep.int .u8)):=⟨⟨_,Tryz.underlying70,rfl⟩,by kernel_rfl,(λ h=>Bool.noConfusion h)⟩
theorem ty74:Ty Tryz.prog 74 Sensor_.rep:=⟨⟨_,Tryz.underlying74,rfl⟩,by kernel_rfl,(λ h=>Bool.noConfusion h)⟩
theorem fa74_3:FA Tryz.prog 74 3 3:=⟨_,_,Tryz.underlying74,rfl,rfl,by kernel_rfl⟩
theorem ty9:Ty Tryz.prog 9 Rep.str:=⟨⟨_,Tryz.underlying9,rfl⟩,by kernel_rfl,(λ _=>rfl)⟩
theorem fa74_14:FA Tryz.prog 74 14 27:=⟨_,_,Tryz.underlying74,rfl,rfl,by kernel_rfl⟩
theorem fa74_5:FA Tryz.prog 74 5 6:=⟨_,_,Tryz.underlying74,rfl,rfl,by kernel_rfl⟩
theorem ti74:TI Tryz.prog 74 (.agg #[.int .u8 0,.int .u8 0,.int .u8 0,.string ⟨#[]⟩,.int .u8 0,.int .u8 0,.bool false,.int .i64 0,.bool false,.int .i64 0,.int .i64 0,.int .i64 0,.int .i64 0,.slice none 0 0,.int .u8 0,.int .u8 0,.int .u8 0,.int .u8 0,.int .u8 0,.int .u8 0,.int .u8 0,.int .u8 0,.int .u8 0,.int .u16 0,.int .u16 0,.int .u16 0,.bool false,.int .i64 0]) 28 136:=TI.of (by kernel_rfl)
theorem ti66:TI Tryz.prog 66 (.agg #[.int .u8 0,.int .u8 0]) 2 2:=TI.of (by kernel_rfl)
theorem pl66:PL Tryz.prog 66 [(0,1),(1,1)]:=⟨_,Tryz.underlying66,by kernel_rfl⟩
theorem ty66:Ty Tryz.prog 66 Entity_.rep:=⟨⟨_,Tryz.underlying66,rfl⟩,by kernel_rfl,(λ h=>Bool.noConfusion h)⟩
theorem ti83:TI Tryz.prog 83 (.agg #[.int .u8 0,.int .u8 0,.int .u8 0,.int .u8 0]) 4 4:=TI.of (by kernel_rfl)
theorem ti211:TI Tryz.prog 211 (.agg #[.int .u8 0,.int .i64 0]) 2 16:=TI.of (by kernel_rfl)
theorem ti188:TI Tryz.prog 188 (.agg #[.slice none 0 0,.int .i64 0]) 2 32:=TI.of (by kernel_rfl)
theorem ti49:TI Tryz.prog 49 (.int .u16 0) 1 2:=TI.of (by kernel_rfl)
theorem pl184:PL Tryz.prog 184 [(0,1),(1,1),(2,1),(3,1)]:=⟨_,Tryz.underlying184,by kernel_rfl⟩
theorem ti184:TI Tryz.prog 184 (.agg #[.slice none 0 0,.slice none 0 0,.slice none 0 0,.slice none 0 0]) 4 96:=TI.of (by kernel_rfl)
theorem fa184_0:FA Tryz.prog 184 0 0:=⟨_,_,Tryz.underlying184,rfl,rfl,by kernel_rfl⟩
theorem ty27:Ty Tryz.prog 27 (Rep.slice Sensor_.rep):=⟨⟨_,Tryz.underlying27,rfl⟩,by kernel_rfl,(λ _=>rfl)⟩
theorem ti5:TI Tryz.prog 5 (.int .u8 0) 1 1:=TI.of (by kernel_rfl)
theorem pl166:PL Tryz.prog 166 [(0,1),(1,1),(2,1),(3,1),(4,1),(5,1),(6,1)]:=⟨_,Tryz.underlying166,by kernel_rfl⟩
theorem ti166:TI Tryz.prog 166 (.agg #[.int .i64 0,.slice none 0 0,.slice none 0 0,.int .i64 0,.int .i64 0,.int .u8 0,.bool false]) 7 80:=TI.of (by kernel_rfl)
theorem fa166_2:FA Tryz.prog 166 2 2:=⟨_,_,Tryz.underlying166,rfl,rfl,by kernel_rfl⟩
theorem ty22:Ty Tryz.prog 22 (Rep.slice (Rep.int .i64)):=⟨⟨_,Tryz.underlying22,rfl⟩,by kernel_rfl,(λ _=>rfl)⟩
theorem fa166_0:FA Tryz.prog 166 0 0:=⟨_,_,Tryz.underlying166,rfl,rfl,by kernel_rfl⟩
theorem fa166_1:FA Tryz.prog 166 1 1:=⟨_,_,Tryz.underlying166,rfl,rfl,by kernel_rfl⟩
theorem ty24:Ty Tryz.prog 24 (Rep.slice (Rep.int .u8)):=⟨⟨_,Tryz.underlying24,rfl⟩,by kernel_rfl,(λ _=>rfl)⟩
theorem fa166_6:FA Tryz.prog 166 6 6:=⟨_,_,Tryz.underlying166,rfl,rfl,by kernel_rfl⟩
theorem ti174:TI Tryz.prog 174 (.agg #[.int .i64 0,.int .i64 0,.int .u16 0]) 3 24:=TI.of (by kernel_rfl)
theorem pl174:PL Tryz.prog 174 [(0,1),(1,1),(2,1)]:=⟨_,Tryz.underlying174,by kernel_rfl⟩
theorem ty174:Ty Tryz.prog 174 eventlog_head.rep:=⟨⟨_,Tryz.underlying174,rfl⟩,by kernel_rfl,(λ h=>Bool.noConfusion h)⟩
theorem fa55_0:FA Tryz.prog 55 0 0:=⟨_,_,Tryz.underlying55,rfl,rfl,by kernel_rfl⟩
theorem fa55_1:FA Tryz.prog 55 1 1:=⟨_,_,Tryz.underlying55,rfl,rfl,by kernel_rfl⟩
theorem ty52:Ty Tryz.prog 52 (Rep.int .u32):=⟨⟨_,Tryz.underlying52,rfl⟩,by kernel_rfl,(λ _=>rfl)⟩
theorem fa55_5:FA Tryz.prog 55 5 5:=⟨_,_,Tryz.underlying55,rfl,rfl,by kernel_rfl⟩
theorem pl169:PL Tryz.prog 169 [(0,1),(1,1),(2,1),(3,1),(4,1),(5,1),(6,1),(7,1),(8,1),(9,1),(10,1),(11,1),(12,1)]:=⟨_,Tryz.underlying169,by kernel_rfl⟩
theorem ti169:TI Tryz.prog 169 (.agg #[.pointer none,.int .i64 0,.int .i64 0,.bool false,.int .i64 0,.int .i64 0,.int .i64 0,.int .u16 0,.slice none 0 0,.bool false,.int .u16 0,.bool false,.bool false]) 13 96:=TI.of (by kernel_rfl)
theorem ti24:TI Tryz.prog 24 (.slice none 0 0) 1 24:=TI.of (by kernel_rfl)
theorem fa169_5:FA Tryz.prog 169 5 5:=⟨_,_,Tryz.underlying169,rfl,rfl,by kernel_rfl⟩
theorem fa169_4:FA Tryz.prog 169 4 4:=⟨_,_,Tryz.underlying169,rfl,rfl,by kernel_rfl⟩
theorem fa74_0:FA Tryz.prog 74 0 0:=⟨_,_,Tryz.underlying74,rfl,rfl,by kernel_rfl⟩
theorem ty93:Ty Tryz.prog 93 Sample_.rep:=⟨⟨_,Tryz.underlying93,rfl⟩,by kernel_rfl,(λ h=>Bool.noConfusion h)⟩
theorem ti93:TI Tryz.prog 93 (.agg #[.int .u8 0,.bool false,.int .u8 0,.int .u16 0]) 4 6:=TI.of (by kernel_rfl)
theorem fa93_1:FA Tryz.prog 93 1 1:=⟨_,_,Tryz.underlying93,rfl,rfl,by kernel_rfl⟩
theorem fa93_0:FA Tryz.prog 93 0 0:=⟨_,_,Tryz.underlying93,rfl,rfl,by kernel_rfl⟩
theorem fa93_3:FA Tryz.prog 93 3 3:=⟨_,_,Tryz.underlying93,rfl,rfl,by kernel_rfl⟩
theorem ty43:Ty Tryz.prog 43 (Rep.slice Entity_.rep):=⟨⟨_,Tryz.underlying43,rfl⟩,by kernel_rfl,(λ _=>rfl)⟩
theorem fa188_0:FA Tryz.prog 188 0 0:=⟨_,_,Tryz.underlying188,rfl,rfl,by kernel_rfl⟩
theorem fa188_1:FA Tryz.prog 188 1 1:=⟨_,_,Tryz.underlying188,rfl,rfl,by kernel_rfl⟩
theorem ty188:Ty Tryz.prog 188 Filter_.rep:=⟨⟨_,Tryz.underlying188,rfl⟩,by kernel_rfl,(λ h=>Bool.noConfusion h)⟩
theorem pl188:PL Tryz.prog 188 [(0,1),(1,1)]:=⟨_,Tryz.underlying188,by kernel_rfl⟩
theorem fa74_8:FA Tryz.prog 74 8 21:=⟨_,_,Tryz.underlying74,rfl,rfl,by kernel_rfl⟩
theorem fa74_9:FA Tryz.prog 74 9 22:=⟨_,_,Tryz.underlying74,rfl,rfl,by kernel_rfl⟩
theorem pl288:PL Tryz.prog 288 [(0,1),(1,1)]:=⟨_,Tryz.underlying288,by kernel_rfl⟩
theorem ti288:TI Tryz.prog 288 (.agg #[.int .i64 0,.bool false]) 2 16:=TI.of (by kernel_rfl)
theorem fa184_2:FA Tryz.prog 184 2 2:=⟨_,_,Tryz.underlying184,rfl,rfl,by kernel_rfl⟩
theorem ty182:Ty Tryz.prog 182 (Rep.slice Filter_.rep):=⟨⟨_,Tryz.underlying182,rfl⟩,by kernel_rfl,(λ _=>rfl)⟩
theorem fa93_2:FA Tryz.prog 93 2 2:=⟨_,_,Tryz.underlying93,rfl,rfl,by kernel_rfl⟩
theorem fa184_3:FA Tryz.prog 184 3 3:=⟨_,_,Tryz.underlying184,rfl,rfl,by kernel_rfl⟩
theorem ty60:Ty Tryz.prog 60 (Rep.slice (Rep.int .u16)):=⟨⟨_,Tryz.underlying60,rfl⟩,by kernel_rfl,(λ _=>rfl)⟩
theorem ti55:TI Tryz.prog 55 (.agg #[.int .u16 0,.int .u32 0,.int .u16 0,.int .u8 0,.int .u8 0,.int .u8 0,.bool false,.int .u8 0,.int .u8 0,.int .u8 0]) 10 20:=TI.of (by kernel_rfl)
theorem ti53:TI Tryz.prog 53 (.agg #[.int .u8 0,.int .u8 0,.int .u8 0]) 3 3:=TI.of (by kernel_rfl)
theorem pl55:PL Tryz.prog 55 [(0,1),(1,1),(2,1),(3,1),(4,1),(5,1),(6,1),(7,3)]:=⟨_,Tryz.underlying55,by kernel_rfl⟩
theorem ty55:Ty Tryz.prog 55 Event_.rep:=⟨⟨_,Tryz.underlying55,rfl⟩,by kernel_rfl,(λ h=>Bool.noConfusion h)⟩
theorem ty288:Ty Tryz.prog 288 Change_.rep:=⟨⟨_,Tryz.underlying288,rfl⟩,by kernel_rfl,(λ h=>Bool.noConfusion h)⟩
theorem fa288_1:FA Tryz.prog 288 1 1:=⟨_,_,Tryz.underlying288,rfl,rfl,by kernel_rfl⟩
theorem fa288_0:FA Tryz.prog 288 0 0:=⟨_,_,Tryz.underlying288,rfl,rfl,by kernel_rfl⟩
theorem fa74_1:FA Tryz.prog 74 1 1:=⟨_,_,Tryz.underlying74,rfl,rfl,by kernel_rfl⟩
theorem fa184_1:FA Tryz.prog 184 1 1:=⟨_,_,Tryz.underlying184,rfl,rfl,by kernel_rfl⟩
theorem ty76:Ty Tryz.prog 76 (Rep.slice Association_.rep):=⟨⟨_,Tryz.underlying76,rfl⟩,by kernel_rfl,(λ _=>rfl)⟩
theorem fa74_4:FA Tryz.prog 74 4 4:=⟨_,_,Tryz.underlying74,rfl,rfl,by kernel_rfl⟩
theorem fa74_13:FA Tryz.prog 74 13 26:=⟨_,_,Tryz.underlying74,rfl,rfl,by kernel_rfl⟩
theorem pl93:PL Tryz.prog 93 [(0,1),(1,1),(2,1),(3,1)]:=⟨_,Tryz.underlying93,by kernel_rfl⟩
theorem fa169_12:FA Tryz.prog 169 12 12:=⟨_,_,Tryz.underlying169,rfl,rfl,by kernel_rfl⟩
theorem fa169_0:FA Tryz.prog 169 0 0:=⟨_,_,Tryz.underlying169,rfl,rfl,by kernel_rfl⟩
theorem ty31:Ty Tryz.prog 31 Rep.lnk0:=⟨⟨_,Tryz.underlying31,rfl⟩,by kernel_rfl,(λ _=>rfl)⟩
theorem fa166_3:FA Tryz.prog 166 3 3:=⟨_,_,Tryz.underlying166,rfl,rfl,by kernel_rfl⟩
theorem fa166_4:FA Tryz.prog 166 4 4:=⟨_,_,Tryz.underlying166,rfl,rfl,by kernel_rfl⟩
theorem fa169_1:FA Tryz.prog 169 1 1:=⟨_,_,Tryz.underlying169,rfl,rfl,by kernel_rfl⟩
theorem fa169_2:FA Tryz.prog 169 2 2:=⟨_,_,Tryz.underlying169,rfl,rfl,by kernel_rfl⟩
theorem fa169_7:FA Tryz.prog 169 7 7:=⟨_,_,Tryz.underlying169,rfl,rfl,by kernel_rfl⟩
theorem fa169_6:FA Tryz.prog 169 6 6:=⟨_,_,Tryz.underlying169,rfl,rfl,by kernel_rfl⟩
theorem fa169_8:FA Tryz.prog 169 8 8:=⟨_,_,Tryz.underlying169,rfl,rfl,by kernel_rfl⟩
theorem ty167:Ty Tryz.prog 167 (Rep.slice eventlog_record.rep):=⟨⟨_,Tryz.underlying167,rfl⟩,by kernel_rfl,(λ _=>rfl)⟩
theorem fa55_6:FA Tryz.prog 55 6 6:=⟨_,_,Tryz.underlying55,rfl,rfl,by kernel_rfl⟩
theorem fa55_2:FA Tryz.prog 55 2 2:=⟨_,_,Tryz.underlying55,rfl,rfl,by kernel_rfl⟩
theorem fa55_3:FA Tryz.prog 55 3 3:=⟨_,_,Tryz.underlying55,rfl,rfl,by kernel_rfl⟩
theorem fa55_4:FA Tryz.prog 55 4 4:=⟨_,_,Tryz.underlying55,rfl,rfl,by kernel_rfl⟩
theorem fa55_7:FA Tryz.prog 55 7 7:=⟨_,_,Tryz.underlying55,rfl,rfl,by kernel_rfl⟩
theorem pl200:PL Tryz.prog 200 [(0,1),(1,10)]:=⟨_,Tryz.underlying200,by kernel_rfl⟩
theorem ti200:TI Tryz.prog 200 (.agg #[.int .i64 0,.int .u16 0,.int .u32 0,.int .u16 0,.int .u8 0,.int .u8 0,.int .u8 0,.bool false,.int .u8 0,.int .u8 0,.int .u8 0]) 11 32:=TI.of (by kernel_rfl)
theorem pl69:PL Tryz.prog 69 [(0,1),(1,1),(2,1),(3,1),(4,1),(5,1),(6,1)]:=⟨_,Tryz.underlying69,by kernel_rfl⟩
theorem ti69:TI Tryz.prog 69 (.agg #[.int .i64 0,.bool false,.int .i64 0,.int .i64 0,.int .i64 0,.int .i64 0,.slice none 0 0]) 7 72:=TI.of (by kernel_rfl)
theorem ti70:TI Tryz.prog 70 (.agg #[.int .u8 0,.int .u8 0,.int .u8 0,.int .u8 0,.int .u8 0,.int .u8 0]) 6 6:=TI.of (by kernel_rfl)
theorem pl72:PL Tryz.prog 72 [(0,1),(1,6)]:=⟨_,Tryz.underlying72,by kernel_rfl⟩
theorem ti72:TI Tryz.prog 72 (.agg #[.int .u8 0,.int .u8 0,.int .u8 0,.int .u8 0,.int .u8 0,.int .u8 0,.int .u8 0]) 7 7:=TI.of (by kernel_rfl)
theorem pl74:PL Tryz.prog 74 [(0,1),(1,1),(2,1),(3,1),(4,2),(6,1),(7,7),(14,7),(21,1),(22,1),(23,1),(24,1),(25,1),(26,1),(27,1)]:=⟨_,Tryz.underlying74,by kernel_rfl⟩
theorem pl163:PL Tryz.prog 163 [(0,1),(1,1)]:=⟨_,Tryz.underlying163,by kernel_rfl⟩
theorem ti163:TI Tryz.prog 163 (.agg #[.slice none 0 0,.int .i64 0]) 2 32:=TI.of (by kernel_rfl)
theorem ti256:TI Tryz.prog 256 (.agg #[.slice none 0 0,.int .i64 0,.bool false]) 3 40:=TI.of (by kernel_rfl)
theorem pl241:PL Tryz.prog 241 [(0,1)]:=⟨_,Tryz.underlying241,by kernel_rfl⟩
theorem ti241:TI Tryz.prog 241 (.agg #[.slice none 0 0]) 1 24:=TI.of (by kernel_rfl)
theorem pl245:PL Tryz.prog 245 [(0,1),(1,1)]:=⟨_,Tryz.underlying245,by kernel_rfl⟩
theorem ti245:TI Tryz.prog 245 (.agg #[.int .u8 0,.slice none 0 0]) 2 32:=TI.of (by kernel_rfl)
theorem fa163_1:FA Tryz.prog 163 1 1:=⟨_,_,Tryz.underlying163,rfl,rfl,by kernel_rfl⟩
theorem fa163_0:FA Tryz.prog 163 0 0:=⟨_,_,Tryz.underlying163,rfl,rfl,by kernel_rfl⟩
theorem ti279:TI Tryz.prog 279 (.agg #[.int .u8 0,.int .u8 0,.int .u8 0,.int .u8 0,.int .u8 0,.int .u8 0,.int .u8 0,.int .u8 0]) 8 8:=TI.of (by kernel_rfl)
theorem ty279:Ty Tryz.prog 279 (Rep.arr 8 (Rep.int .u8)):=⟨⟨_,Tryz.underlying279,rfl⟩,by kernel_rfl,(λ h=>Bool.noConfusion h)⟩
theorem ti130:TI Tryz.prog 130 (.agg #[.int .u8 0,.int .u8 0,.int .u8 0,.int .u8 0,.int .i64 0,.int .i64 0,.int .i64 0,.int .u8 0,.slice none 0 0]) 9 64:=TI.of (by kernel_rfl)
theorem pl130:PL Tryz.prog 130 [(0,1),(1,1),(2,1),(3,1),(4,1),(5,1),(6,1),(7,1),(8,1)]:=⟨_,Tryz.underlying130,by kernel_rfl⟩
theorem ty130:Ty Tryz.prog 130 Message_.rep:=⟨⟨_,Tryz.underlying130,rfl⟩,by kernel_rfl,(λ h=>Bool.noConfusion h)⟩
theorem fa130_2:FA Tryz.prog 130 2 2:=⟨_,_,Tryz.underlying130,rfl,rfl,by kernel_rfl⟩
theorem fa130_7:FA Tryz.prog 130 7 7:=⟨_,_,Tryz.underlying130,rfl,rfl,by kernel_rfl⟩
theorem fa130_8:FA Tryz.prog 130 8 8:=⟨_,_,Tryz.underlying130,rfl,rfl,by kernel_rfl⟩
theorem fa130_0:FA Tryz.prog 130 0 0:=⟨_,_,Tryz.underlying130,rfl,rfl,by kernel_rfl⟩
theorem fa130_1:FA Tryz.prog 130 1 1:=⟨_,_,Tryz.underlying130,rfl,rfl,by kernel_rfl⟩
theorem fa130_4:FA Tryz.prog 130 4 4:=⟨_,_,Tryz.underlying130,rfl,rfl,by kernel_rfl⟩
theorem fa130_5:FA Tryz.prog 130 5 5:=⟨_,_,Tryz.underlying130,rfl,rfl,by kernel_rfl⟩
theorem fa130_6:FA Tryz.prog 130 6 6:=⟨_,_,Tryz.underlying130,rfl,rfl,by kernel_rfl⟩
theorem fa130_3:FA Tryz.prog 130 3 3:=⟨_,_,Tryz.underlying130,rfl,rfl,by kernel_rfl⟩
theorem ti134:TI Tryz.prog 134 (.slice none 0 0) 1 24:=TI.of (by kernel_rfl)
theorem ty134:Ty Tryz.prog 134 (Rep.slice Packet_.rep):=⟨⟨_,Tryz.underlying134,rfl⟩,by kernel_rfl,(λ _=>rfl)⟩
theorem pl139:PL Tryz.prog 139 [(0,1),(1,1),(2,1),(3,1),(4,1),(5,1),(6,1),(7,1)]:=⟨_,Tryz.underlying139,by kernel_rfl⟩
theorem ti139:TI Tryz.prog 139 (.agg #[.int .u8 0,.int .u8 0,.bool false,.bool false,.int .i64 0,.bool false,.int .i64 0,.slice none 0 0]) 8 56:=TI.of (by kernel_rfl)
theorem ty139:Ty Tryz.prog 139 Packet_.rep:=⟨⟨_,Tryz.underlying139,rfl⟩,by kernel_rfl,(λ h=>Bool.noConfusion h)⟩
theorem fa139_2:FA Tryz.prog 139 2 2:=⟨_,_,Tryz.underlying139,rfl,rfl,by kernel_rfl⟩
theorem fa139_3:FA Tryz.prog 139 3 3:=⟨_,_,Tryz.underlying139,rfl,rfl,by kernel_rfl⟩
theorem fa139_0:FA Tryz.prog 139 0 0:=⟨_,_,Tryz.underlying139,rfl,rfl,by kernel_rfl⟩
theorem fa139_1:FA Tryz.prog 139 1 1:=⟨_,_,Tryz.underlying139,rfl,rfl,by kernel_rfl⟩
theorem fa139_4:FA Tryz.prog 139 4 4:=⟨_,_,Tryz.underlying139,rfl,rfl,by kernel_rfl⟩
theorem fa139_6:FA Tryz.prog 139 6 6:=⟨_,_,Tryz.underlying139,rfl,rfl,by kernel_rfl⟩
theorem fa139_7:FA Tryz.prog 139 7 7:=⟨_,_,Tryz.underlying139,rfl,rfl,by kernel_rfl⟩
theorem pl252:PL Tryz.prog 252 [(0,1),(1,1)]:=⟨_,Tryz.underlying252,by kernel_rfl⟩
theorem ti252:TI Tryz.prog 252 (.agg #[.bool false,.int .u8 0]) 2 2:=TI.of (by kernel_rfl)
theorem fa139_5:FA Tryz.prog 139 5 5:=⟨_,_,Tryz.underlying139,rfl,rfl,by kernel_rfl⟩
theorem ty252:Ty Tryz.prog 252 Anon_af38c4.rep:=⟨⟨_,Tryz.underlying252,rfl⟩,by kernel_rfl,(λ h=>Bool.noConfusion h)⟩
theorem fa252_0:FA Tryz.prog 252 0 0:=⟨_,_,Tryz.underlying252,rfl,rfl,by kernel_rfl⟩
theorem fa252_1:FA Tryz.prog 252 1 1:=⟨_,_,Tryz.underlying252,rfl,rfl,by kernel_rfl⟩
theorem fa241_0:FA Tryz.prog 241 0 0:=⟨_,_,Tryz.underlying241,rfl,rfl,by kernel_rfl⟩
theorem ty239:Ty Tryz.prog 239 (Rep.slice bus_master.rep):=⟨⟨_,Tryz.underlying239,rfl⟩,by kernel_rfl,(λ _=>rfl)⟩
theorem fa142_0:FA Tryz.prog 142 0 0:=⟨_,_,Tryz.underlying142,rfl,rfl,by kernel_rfl⟩
theorem fa142_1:FA Tryz.prog 142 1 1:=⟨_,_,Tryz.underlying142,rfl,rfl,by kernel_rfl⟩
theorem fa142_2:FA Tryz.prog 142 2 2:=⟨_,_,Tryz.underlying142,rfl,rfl,by kernel_rfl⟩
theorem ty142:Ty Tryz.prog 142 Frame_.rep:=⟨⟨_,Tryz.underlying142,rfl⟩,by kernel_rfl,(λ h=>Bool.noConfusion h)⟩
theorem sz256:(Tryz.prog.info? 256).map (·.size)=some 3:=by kernel_rfl
theorem fa256_0:FA Tryz.prog 256 0 0:=⟨_,_,Tryz.underlying256,rfl,rfl,by kernel_rfl⟩
theorem ty170:Ty Tryz.prog 170 (Rep.slice (Rep.slice (Rep.int .u8))):=⟨⟨_,Tryz.underlying170,rfl⟩,by kernel_rfl,(λ _=>rfl)⟩
theorem ty256:Ty Tryz.prog 256 bus_master.rep:=⟨⟨_,Tryz.underlying256,rfl⟩,by kernel_rfl,(λ h=>Bool.noConfusion h)⟩
theorem fa256_2:FA Tryz.prog 256 2 2:=⟨_,_,Tryz.underlying256,rfl,rfl,by kernel_rfl⟩
theorem ext238:Extern.find Tryz.f238=some Extern.BytealgCompare.compare:=by kernel_rfl
theorem ext238n:Extern.findNext Tryz.f238=none:=by kernel_rfl
theorem fa145_0:FA Tryz.prog 145 0 0:=⟨_,_,Tryz.underlying145,rfl,rfl,by kernel_rfl⟩
theorem fa145_1:FA Tryz.prog 145 1 1:=⟨_,_,Tryz.underlying145,rfl,rfl,by kernel_rfl⟩
theorem fa145_2:FA Tryz.prog 145 2 2:=⟨_,_,Tryz.underlying145,rfl,rfl,by kernel_rfl⟩
theorem ti142:TI Tryz.prog 142 (.agg #[.int .u8 0,.int .u8 0,.slice none 0 0]) 3 32:=TI.of (by kernel_rfl)
theorem pl142:PL Tryz.prog 142 [(0,1),(1,1),(2,1)]:=⟨_,Tryz.underlying142,by kernel_rfl⟩
theorem tyf120 {v:Value}:Ty Tryz.prog 120 (Rep.raw (α:=Unit) v):=⟨⟨_,Tryz.underlying120,rfl⟩,by kernel_rfl,λ _=>rfl⟩
theorem ti147:TI Tryz.prog 147 (.agg #[.slice none 0 0,.slice none 0 0,.bool false,.slice none 0 0]) 4 80:=TI.of (by kernel_rfl)
theorem pl147:PL Tryz.prog 147 [(0,1),(1,1),(2,1),(3,1)]:=⟨_,Tryz.underlying147,by kernel_rfl⟩
theorem ty147:Ty Tryz.prog 147 Delivery_.rep:=⟨⟨_,Tryz.underlying147,rfl⟩,by kernel_rfl,(λ h=>Bool.noConfusion h)⟩
theorem ti132:TI Tryz.prog 132 (.nilFunc) 1 8:=TI.of (by kernel_rfl)
theorem tyf132 {v:Value}:Ty Tryz.prog 132 (Rep.raw (α:=Unit) v):=⟨⟨_,Tryz.underlying132,rfl⟩,by kernel_rfl,λ _=>rfl⟩
theorem sz24:(Tryz.prog.info? 24).map (·.size)=some 1:=by kernel_rfl
theorem ty145:Ty Tryz.prog 145 Fault_.rep:=⟨⟨_,Tryz.underlying145,rfl⟩,by kernel_rfl,(λ h=>Bool.noConfusion h)⟩
theorem fa147_1:FA Tryz.prog 147 1 1:=⟨_,_,Tryz.underlying147,rfl,rfl,by kernel_rfl⟩
theorem fa147_2:FA Tryz.prog 147 2 2:=⟨_,_,Tryz.underlying147,rfl,rfl,by kernel_rfl⟩
theorem fa147_0:FA Tryz.prog 147 0 0:=⟨_,_,Tryz.underlying147,rfl,rfl,by kernel_rfl⟩
theorem fa256_1:FA Tryz.prog 256 1 1:=⟨_,_,Tryz.underlying256,rfl,rfl,by kernel_rfl⟩
theorem fa147_3:FA Tryz.prog 147 3 3:=⟨_,_,Tryz.underlying147,rfl,rfl,by kernel_rfl⟩
theorem fa267_0:FA Tryz.prog 267 0 0:=⟨_,_,Tryz.underlying267,rfl,rfl,by kernel_rfl⟩
theorem fa155_0:FA Tryz.prog 155 0 0:=⟨_,_,Tryz.underlying155,rfl,rfl,by kernel_rfl⟩
theorem fa245_1:FA Tryz.prog 245 1 1:=⟨_,_,Tryz.underlying245,rfl,rfl,by kernel_rfl⟩
theorem ty243:Ty Tryz.prog 243 (Rep.slice fragment_open.rep):=⟨⟨_,Tryz.underlying243,rfl⟩,by kernel_rfl,(λ _=>rfl)⟩
theorem ty267:Ty Tryz.prog 267 fragment_open.rep:=⟨⟨_,Tryz.underlying267,rfl⟩,by kernel_rfl,(λ h=>Bool.noConfusion h)⟩
theorem fa155_1:FA Tryz.prog 155 1 1:=⟨_,_,Tryz.underlying155,rfl,rfl,by kernel_rfl⟩
theorem fa155_2:FA Tryz.prog 155 2 2:=⟨_,_,Tryz.underlying155,rfl,rfl,by kernel_rfl⟩
theorem ti267:TI Tryz.prog 267 (.agg #[.int .u8 0,.bool false,.int .i64 0,.slice none 0 0,.int .i64 0,.int .i64 0]) 6 56:=TI.of (by kernel_rfl)
theorem ti155:TI Tryz.prog 155 (.agg #[.int .u8 0,.bool false,.int .i64 0,.slice none 0 0]) 4 40:=TI.of (by kernel_rfl)
theorem pl155:PL Tryz.prog 155 [(0,1),(1,1),(2,1),(3,1)]:=⟨_,Tryz.underlying155,by kernel_rfl⟩
theorem ty155:Ty Tryz.prog 155 Whole_.rep:=⟨⟨_,Tryz.underlying155,rfl⟩,by kernel_rfl,(λ h=>Bool.noConfusion h)⟩
theorem pl267:PL Tryz.prog 267 [(0,4),(4,1),(5,1)]:=⟨_,Tryz.underlying267,by kernel_rfl⟩
theorem fa245_0:FA Tryz.prog 245 0 0:=⟨_,_,Tryz.underlying245,rfl,rfl,by kernel_rfl⟩
theorem sz267:(Tryz.prog.info? 267).map (·.size)=some 6:=by kernel_rfl
theorem fa267_2:FA Tryz.prog 267 2 5:=⟨_,_,Tryz.underlying267,rfl,rfl,by kernel_rfl⟩
theorem fa267_1:FA Tryz.prog 267 1 4:=⟨_,_,Tryz.underlying267,rfl,rfl,by kernel_rfl⟩
theorem fa155_3:FA Tryz.prog 155 3 3:=⟨_,_,Tryz.underlying155,rfl,rfl,by kernel_rfl⟩
theorem ti143:TI Tryz.prog 143 (.slice none 0 0) 1 24:=TI.of (by kernel_rfl)
theorem ti4:TI Tryz.prog 4 (.bool false) 1 1:=TI.of (by kernel_rfl)
theorem sz143:(Tryz.prog.info? 143).map (·.size)=some 1:=by kernel_rfl
theorem ty143:Ty Tryz.prog 143 (Rep.slice Message_.rep):=⟨⟨_,Tryz.underlying143,rfl⟩,by kernel_rfl,(λ _=>rfl)⟩
theorem pl145:PL Tryz.prog 145 [(0,1),(1,1),(2,1)]:=⟨_,Tryz.underlying145,by kernel_rfl⟩
theorem ti145:TI Tryz.prog 145 (.agg #[.int .i64 0,.int .i64 0,.int .u8 0]) 3 24:=TI.of (by kernel_rfl)
theorem rd3:Rd Tryz.prog 3 (.int .i64) (okI .i64):=Rd.int Tryz.underlying3
theorem rd22:Rd Tryz.prog 22 (Rep.slice (Rep.int .i64)) (okL (okI .i64)):=Rd.slice Tryz.underlying22 (by kernel_rfl) rfl rd3
theorem rd5:Rd Tryz.prog 5 (.int .u8) (okI .u8):=Rd.int Tryz.underlying5
theorem rd145:Rd Tryz.prog 145 Fault_.rep Fault_.ok:=Rd.struct _ (λ p=>⟨p.1,p.2.1,p.2.2.1⟩) (λ _=>rfl) Tryz.underlying145 (by kernel_rfl) (.cons rfl (by kernel_rfl) rd3 (.cons rfl (by kernel_rfl) rd3 (.cons rfl (by kernel_rfl) rd5 .nil)))
theorem rd119:Rd Tryz.prog 119 (Rep.slice Fault_.rep) (okL Fault_.ok):=Rd.slice Tryz.underlying119 (by kernel_rfl) rfl rd145
end Lift
