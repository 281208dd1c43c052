import Derived.Test.YtahlmfpllhmjoaaGreatDoorPlain
import Derived.Test.YtahlmfpllhmjoaaGreatDoorChecked
set_option linter.unusedVariables false
set_option linter.unusedSimpArgs false
namespace Lift
open Go Go.Proofs
abbrev monitor_Monitor.repW (w0_ w1_:Value):Rep monitor_Monitor:=Rep.iso (λ s:monitor_Monitor=>(s.sensors,s.l,s.filters,s.states,())) (Rep.prod (Rep.slice Sensor_.rep) (Rep.prod (Rep.slice Association_.rep) (Rep.prod (Rep.raw (α:=List Filter_) w0_) (Rep.prod (Rep.raw (α:=List Int) w1_) Rep.unit))))
abbrev monitor_Monitor.mem (q_:Value) (x_:monitor_Monitor):HAtom:=.ex λ w0_=>.ex λ w1_=>.sep (.box 184 (monitor_Monitor.repW w0_ w1_) q_ x_) (.sep (.slice 188 Filter_.rep w0_ x_.filters) (.slice 49 (Rep.int .u16) w1_ x_.states))
abbrev flash_Device.repW (w0_ w1_:Value):Rep flash_Device:=Rep.iso (λ s:flash_Device=>(s.size,s.bytes,s.wear,s.steps,s.left,s.torn,s.down,())) (Rep.prod (Rep.int .i64) (Rep.prod (Rep.raw (α:=List Int) w0_) (Rep.prod (Rep.raw (α:=List Int) w1_) (Rep.prod (Rep.int .i64) (Rep.prod (Rep.int .i64) (Rep.prod (Rep.int .u8) (Rep.prod Rep.bool Rep.unit)))))))
abbrev flash_Device.mem (q_:Value) (x_:flash_Device):HAtom:=.ex λ w0_=>.ex λ w1_=>.sep (.box 166 (flash_Device.repW w0_ w1_) q_ x_) (.sep (.slice 5 (Rep.int .u8) w0_ x_.bytes) (.slice 3 (Rep.int .i64) w1_ x_.wear))
abbrev eventlog_Log.repW (w0_ w1_:Value):Rep eventlog_Log:=Rep.iso (λ s:eventlog_Log=>(s.d,s.first,s.sectors,s.overwrite,s.newest,s.tail,s.used,s.next,s.records,s.full,s.number,s.held,s.ended,())) (Rep.prod (Rep.raw (α:=Bool) w0_) (Rep.prod (Rep.int .i64) (Rep.prod (Rep.int .i64) (Rep.prod Rep.bool (Rep.prod (Rep.int .i64) (Rep.prod (Rep.int .i64) (Rep.prod (Rep.int .i64) (Rep.prod (Rep.int .u16) (Rep.prod (Rep.raw (α:=List eventlog_record) w1_) (Rep.prod Rep.bool (Rep.prod (Rep.int .u16) (Rep.prod Rep.bool (Rep.prod Rep.bool Rep.unit)))))))))))))
abbrev eventlog_Log.mem (l_:Value) (q_:Value) (x_:eventlog_Log):HAtom:=.ex λ w0_=>.ex λ w1_=>.sep (.box 169 (eventlog_Log.repW w0_ w1_) q_ x_) (.sep (.lnk l_ w0_ x_.d) (.slice 200 eventlog_record.rep w1_ x_.records))
theorem fa74_6:FA Tryz.prog 74 6 7:=⟨_,_,Tryz.underlying74,rfl,rfl,by kernel_rfl⟩
theorem ty69:Ty Tryz.prog 69 Conversion_.rep:=⟨⟨_,Tryz.underlying69,rfl⟩,by kernel_rfl,(λ h=>Bool.noConfusion h)⟩
theorem ti69:TI Tryz.prog 69 (.agg #[.int .i64 0,.bool false,.int .i64 0,.int .i64 0,.int .i64 0,.int .i64 0,.slice none 0 0]) 7 72:=TI.of (by kernel_rfl)
theorem fa69_0:FA Tryz.prog 69 0 0:=⟨_,_,Tryz.underlying69,rfl,rfl,by kernel_rfl⟩
theorem ty3:Ty Tryz.prog 3 (Rep.int .i64):=⟨⟨_,Tryz.underlying3,rfl⟩,by kernel_rfl,(λ _=>rfl)⟩
theorem fa69_1:FA Tryz.prog 69 1 1:=⟨_,_,Tryz.underlying69,rfl,rfl,by kernel_rfl⟩
theorem ty4:Ty Tryz.prog 4 Rep.bool:=⟨⟨_,Tryz.underlying4,rfl⟩,by kernel_rfl,(λ _=>rfl)⟩
theorem fa69_2:FA Tryz.prog 69 2 2:=⟨_,_,Tryz.underlying69,rfl,rfl,by kernel_rfl⟩
theorem fa69_3:FA Tryz.prog 69 3 3:=⟨_,_,Tryz.underlying69,rfl,rfl,by kernel_rfl⟩
theorem fa69_4:FA Tryz.prog 69 4 4:=⟨_,_,Tryz.underlying69,rfl,rfl,by kernel_rfl⟩
theorem fa69_5:FA Tryz.prog 69 5 5:=⟨_,_,Tryz.underlying69,rfl,rfl,by kernel_rfl⟩
theorem fa69_6:FA Tryz.prog 69 6 6:=⟨_,_,Tryz.underlying69,rfl,rfl,by kernel_rfl⟩
theorem ty67:Ty Tryz.prog 67 (Rep.slice Point_.rep):=⟨⟨_,Tryz.underlying67,rfl⟩,by kernel_rfl,(λ _=>rfl)⟩
theorem fa74_7:FA Tryz.prog 74 7 14:=⟨_,_,Tryz.underlying74,rfl,rfl,by kernel_rfl⟩
theorem ty72:Ty Tryz.prog 72 Thresholds_.rep:=⟨⟨_,Tryz.underlying72,rfl⟩,by kernel_rfl,(λ h=>Bool.noConfusion h)⟩
theorem pl72:PL Tryz.prog 72 [(0,1),(1,6)]:=⟨_,Tryz.underlying72,by kernel_rfl⟩
theorem ti72:TI Tryz.prog 72 (.agg #[.int .u8 0,.int .u8 0,.int .u8 0,.int .u8 0,.int .u8 0,.int .u8 0,.int .u8 0]) 7 7:=TI.of (by kernel_rfl)
theorem ty70:Ty Tryz.prog 70 (Rep.arr 6 (Rep.int .u8)):=⟨⟨_,Tryz.underlying70,rfl⟩,by kernel_rfl,(λ h=>Bool.noConfusion h)⟩
theorem ty5:Ty Tryz.prog 5 (Rep.int .u8):=⟨⟨_,Tryz.underlying5,rfl⟩,by kernel_rfl,(λ _=>rfl)⟩
theorem eqt5:EqT Tryz.prog 5 (Rep.int .u8) eqI 1:=EqT.int Tryz.underlying5
theorem eqt70:EqT Tryz.prog 70 (Rep.arr 6 (Rep.int .u8)) (eqL eqI) 2:=EqT.arr Tryz.underlying70 ty5 eqt5
theorem eqt72:EqT Tryz.prog 72 Thresholds_.rep Thresholds_.eqb 3:=EqT.struct (k:=2) (ps:=[(0,5),(1,70)]) ⟨_,Tryz.underlying72,by kernel_rfl,by kernel_rfl⟩ rfl (EqF.cons Thresholds_.f0 ty5 (eqt5.up rfl) (EqF.cons Thresholds_.f1 ty70 (eqt70.up rfl) EqF.nil))
theorem gdf72:GdF Tryz.prog 72:=by unfold GdF;kernel_rfl
theorem fa74_8:FA Tryz.prog 74 8 21:=⟨_,_,Tryz.underlying74,rfl,rfl,by kernel_rfl⟩
theorem fa74_9:FA Tryz.prog 74 9 22:=⟨_,_,Tryz.underlying74,rfl,rfl,by kernel_rfl⟩
theorem fa74_14:FA Tryz.prog 74 14 27:=⟨_,_,Tryz.underlying74,rfl,rfl,by kernel_rfl⟩
theorem fa74_10:FA Tryz.prog 74 10 23:=⟨_,_,Tryz.underlying74,rfl,rfl,by kernel_rfl⟩
theorem ty49:Ty Tryz.prog 49 (Rep.int .u16):=⟨⟨_,Tryz.underlying49,rfl⟩,by kernel_rfl,(λ _=>rfl)⟩
theorem fa74_11:FA Tryz.prog 74 11 24:=⟨_,_,Tryz.underlying74,rfl,rfl,by kernel_rfl⟩
theorem fa74_12:FA Tryz.prog 74 12 25:=⟨_,_,Tryz.underlying74,rfl,rfl,by kernel_rfl⟩
theorem ty211:Ty Tryz.prog 211 Point_.rep:=⟨⟨_,Tryz.underlying211,rfl⟩,by kernel_rfl,(λ h=>Bool.noConfusion h)⟩
theorem ti211:TI Tryz.prog 211 (.agg #[.int .u8 0,.int .i64 0]) 2 16:=TI.of (by kernel_rfl)
theorem fa211_1:FA Tryz.prog 211 1 1:=⟨_,_,Tryz.underlying211,rfl,rfl,by kernel_rfl⟩
theorem ty2:Ty Tryz.prog 2 (Rep.int .i64):=⟨⟨_,Tryz.underlying2,rfl⟩,by kernel_rfl,(λ _=>rfl)⟩
theorem fa211_0:FA Tryz.prog 211 0 0:=⟨_,_,Tryz.underlying211,rfl,rfl,by kernel_rfl⟩
theorem Try_mixed:Tryz.prog.follows .mixedOrders=true:=Tryz.checked.mixed
theorem ti3:TI Tryz.prog 3 (.int .i64 0) 1 8:=TI.of (by kernel_rfl)
theorem fa72_0:FA Tryz.prog 72 0 0:=⟨_,_,Tryz.underlying72,rfl,rfl,by kernel_rfl⟩
theorem fa72_1:FA Tryz.prog 72 1 1:=⟨_,_,Tryz.underlying72,rfl,rfl,by kernel_rfl⟩
theorem ty74:Ty Tryz.prog 74 Sensor_.rep:=⟨⟨_,Tryz.underlying74,rfl⟩,by kernel_rfl,(λ h=>Bool.noConfusion h)⟩
theorem fa74_3:FA Tryz.prog 74 3 3:=⟨_,_,Tryz.underlying74,rfl,rfl,by kernel_rfl⟩
theorem ty9:Ty Tryz.prog 9 Rep.str:=⟨⟨_,Tryz.underlying9,rfl⟩,by kernel_rfl,(λ _=>rfl)⟩
theorem fa74_5:FA Tryz.prog 74 5 6:=⟨_,_,Tryz.underlying74,rfl,rfl,by kernel_rfl⟩
theorem ti74:TI Tryz.prog 74 (.agg #[.int .u8 0,.int .u8 0,.int .u8 0,.string ⟨#[]⟩,.int .u8 0,.int .u8 0,.bool false,.int .i64 0,.bool false,.int .i64 0,.int .i64 0,.int .i64 0,.int .i64 0,.slice none 0 0,.int .u8 0,.int .u8 0,.int .u8 0,.int .u8 0,.int .u8 0,.int .u8 0,.int .u8 0,.int .u8 0,.int .u8 0,.int .u16 0,.int .u16 0,.int .u16 0,.bool false,.int .i64 0]) 28 136:=TI.of (by kernel_rfl)
theorem fa74_0:FA Tryz.prog 74 0 0:=⟨_,_,Tryz.underlying74,rfl,rfl,by kernel_rfl⟩
theorem fa83_1:FA Tryz.prog 83 1 2:=⟨_,_,Tryz.underlying83,rfl,rfl,by kernel_rfl⟩
theorem ty66:Ty Tryz.prog 66 Entity_.rep:=⟨⟨_,Tryz.underlying66,rfl⟩,by kernel_rfl,(λ h=>Bool.noConfusion h)⟩
theorem ti66:TI Tryz.prog 66 (.agg #[.int .u8 0,.int .u8 0]) 2 2:=TI.of (by kernel_rfl)
theorem ty83:Ty Tryz.prog 83 Association_.rep:=⟨⟨_,Tryz.underlying83,rfl⟩,by kernel_rfl,(λ h=>Bool.noConfusion h)⟩
theorem eqt66:EqT Tryz.prog 66 Entity_.rep Entity_.eqb 2:=EqT.struct (k:=1) (ps:=[(0,5),(1,5)]) ⟨_,Tryz.underlying66,by kernel_rfl,by kernel_rfl⟩ rfl (EqF.cons Entity_.f0 ty5 (eqt5.up rfl) (EqF.cons Entity_.f1 ty5 (eqt5.up rfl) EqF.nil))
theorem gdf66:GdF Tryz.prog 66:=by unfold GdF;kernel_rfl
theorem pl66:PL Tryz.prog 66 [(0,1),(1,1)]:=⟨_,Tryz.underlying66,by kernel_rfl⟩
theorem fa83_0:FA Tryz.prog 83 0 0:=⟨_,_,Tryz.underlying83,rfl,rfl,by kernel_rfl⟩
theorem ti83:TI Tryz.prog 83 (.agg #[.int .u8 0,.int .u8 0,.int .u8 0,.int .u8 0]) 4 4:=TI.of (by kernel_rfl)
theorem keyt66:KeyT Tryz.prog 66 Entity_.rep Entity_.eqb:=KeyT.struct (ps:=[(0,5),(1,5)]) ⟨_,Tryz.underlying66,by kernel_rfl,by kernel_rfl⟩ rfl eqt66 (by rfl) (by intro p hp;simp only [List.mem_cons,List.not_mem_nil,or_false] at hp;rcases hp with rfl | rfl;exact CkP.int Entity_.f0 ty5 Tryz.underlying5;exact CkP.int Entity_.f1 ty5 Tryz.underlying5) (Kb.iso _ (Kb.prod Kb.int (Kb.prod Kb.int Kb.unit)))
theorem ti4:TI Tryz.prog 4 (.bool false) 1 1:=TI.of (by kernel_rfl)
theorem ti188:TI Tryz.prog 188 (.agg #[.slice none 0 0,.int .i64 0]) 2 32:=TI.of (by kernel_rfl)
theorem ti49:TI Tryz.prog 49 (.int .u16 0) 1 2:=TI.of (by kernel_rfl)
theorem pl184:PL Tryz.prog 184 [(0,1),(1,1),(2,1),(3,1)]:=⟨_,Tryz.underlying184,by kernel_rfl⟩
theorem ti184:TI Tryz.prog 184 (.agg #[.slice none 0 0,.slice none 0 0,.slice none 0 0,.slice none 0 0]) 4 96:=TI.of (by kernel_rfl)
theorem fa184_0:FA Tryz.prog 184 0 0:=⟨_,_,Tryz.underlying184,rfl,rfl,by kernel_rfl⟩
theorem ty27:Ty Tryz.prog 27 (Rep.slice Sensor_.rep):=⟨⟨_,Tryz.underlying27,rfl⟩,by kernel_rfl,(λ _=>rfl)⟩
theorem ti5:TI Tryz.prog 5 (.int .u8 0) 1 1:=TI.of (by kernel_rfl)
theorem pl166:PL Tryz.prog 166 [(0,1),(1,1),(2,1),(3,1),(4,1),(5,1),(6,1)]:=⟨_,Tryz.underlying166,by kernel_rfl⟩
theorem ti166:TI Tryz.prog 166 (.agg #[.int .i64 0,.slice none 0 0,.slice none 0 0,.int .i64 0,.int .i64 0,.int .u8 0,.bool false]) 7 80:=TI.of (by kernel_rfl)
theorem fa166_2:FA Tryz.prog 166 2 2:=⟨_,_,Tryz.underlying166,rfl,rfl,by kernel_rfl⟩
theorem ty22:Ty Tryz.prog 22 (Rep.slice (Rep.int .i64)):=⟨⟨_,Tryz.underlying22,rfl⟩,by kernel_rfl,(λ _=>rfl)⟩
theorem fa166_0:FA Tryz.prog 166 0 0:=⟨_,_,Tryz.underlying166,rfl,rfl,by kernel_rfl⟩
theorem fa166_1:FA Tryz.prog 166 1 1:=⟨_,_,Tryz.underlying166,rfl,rfl,by kernel_rfl⟩
theorem ty24:Ty Tryz.prog 24 (Rep.slice (Rep.int .u8)):=⟨⟨_,Tryz.underlying24,rfl⟩,by kernel_rfl,(λ _=>rfl)⟩
theorem fa166_6:FA Tryz.prog 166 6 6:=⟨_,_,Tryz.underlying166,rfl,rfl,by kernel_rfl⟩
theorem ti174:TI Tryz.prog 174 (.agg #[.int .i64 0,.int .i64 0,.int .u16 0]) 3 24:=TI.of (by kernel_rfl)
theorem pl174:PL Tryz.prog 174 [(0,1),(1,1),(2,1)]:=⟨_,Tryz.underlying174,by kernel_rfl⟩
theorem ty174:Ty Tryz.prog 174 eventlog_head.rep:=⟨⟨_,Tryz.underlying174,rfl⟩,by kernel_rfl,(λ h=>Bool.noConfusion h)⟩
theorem fa55_0:FA Tryz.prog 55 0 0:=⟨_,_,Tryz.underlying55,rfl,rfl,by kernel_rfl⟩
theorem fa55_1:FA Tryz.prog 55 1 1:=⟨_,_,Tryz.underlying55,rfl,rfl,by kernel_rfl⟩
theorem ty52:Ty Tryz.prog 52 (Rep.int .u32):=⟨⟨_,Tryz.underlying52,rfl⟩,by kernel_rfl,(λ _=>rfl)⟩
theorem fa55_5:FA Tryz.prog 55 5 5:=⟨_,_,Tryz.underlying55,rfl,rfl,by kernel_rfl⟩
theorem pl169:PL Tryz.prog 169 [(0,1),(1,1),(2,1),(3,1),(4,1),(5,1),(6,1),(7,1),(8,1),(9,1),(10,1),(11,1),(12,1)]:=⟨_,Tryz.underlying169,by kernel_rfl⟩
theorem ti169:TI Tryz.prog 169 (.agg #[.pointer none,.int .i64 0,.int .i64 0,.bool false,.int .i64 0,.int .i64 0,.int .i64 0,.int .u16 0,.slice none 0 0,.bool false,.int .u16 0,.bool false,.bool false]) 13 96:=TI.of (by kernel_rfl)
theorem ti24:TI Tryz.prog 24 (.slice none 0 0) 1 24:=TI.of (by kernel_rfl)
theorem fa169_5:FA Tryz.prog 169 5 5:=⟨_,_,Tryz.underlying169,rfl,rfl,by kernel_rfl⟩
theorem fa169_4:FA Tryz.prog 169 4 4:=⟨_,_,Tryz.underlying169,rfl,rfl,by kernel_rfl⟩
theorem ty93:Ty Tryz.prog 93 Sample_.rep:=⟨⟨_,Tryz.underlying93,rfl⟩,by kernel_rfl,(λ h=>Bool.noConfusion h)⟩
theorem ti93:TI Tryz.prog 93 (.agg #[.int .u8 0,.bool false,.int .u8 0,.int .u16 0]) 4 6:=TI.of (by kernel_rfl)
theorem fa93_0:FA Tryz.prog 93 0 0:=⟨_,_,Tryz.underlying93,rfl,rfl,by kernel_rfl⟩
theorem fa93_1:FA Tryz.prog 93 1 1:=⟨_,_,Tryz.underlying93,rfl,rfl,by kernel_rfl⟩
theorem fa93_2:FA Tryz.prog 93 2 2:=⟨_,_,Tryz.underlying93,rfl,rfl,by kernel_rfl⟩
theorem fa93_3:FA Tryz.prog 93 3 3:=⟨_,_,Tryz.underlying93,rfl,rfl,by kernel_rfl⟩
theorem ty43:Ty Tryz.prog 43 (Rep.slice Entity_.rep):=⟨⟨_,Tryz.underlying43,rfl⟩,by kernel_rfl,(λ _=>rfl)⟩
theorem pl288:PL Tryz.prog 288 [(0,1),(1,1)]:=⟨_,Tryz.underlying288,by kernel_rfl⟩
theorem ti288:TI Tryz.prog 288 (.agg #[.int .i64 0,.bool false]) 2 16:=TI.of (by kernel_rfl)
theorem fa188_0:FA Tryz.prog 188 0 0:=⟨_,_,Tryz.underlying188,rfl,rfl,by kernel_rfl⟩
theorem fa188_1:FA Tryz.prog 188 1 1:=⟨_,_,Tryz.underlying188,rfl,rfl,by kernel_rfl⟩
theorem ty188:Ty Tryz.prog 188 Filter_.rep:=⟨⟨_,Tryz.underlying188,rfl⟩,by kernel_rfl,(λ h=>Bool.noConfusion h)⟩
theorem pl188:PL Tryz.prog 188 [(0,1),(1,1)]:=⟨_,Tryz.underlying188,by kernel_rfl⟩
theorem fa184_3:FA Tryz.prog 184 3 3:=⟨_,_,Tryz.underlying184,rfl,rfl,by kernel_rfl⟩
theorem ty60:Ty Tryz.prog 60 (Rep.slice (Rep.int .u16)):=⟨⟨_,Tryz.underlying60,rfl⟩,by kernel_rfl,(λ _=>rfl)⟩
theorem fa184_2:FA Tryz.prog 184 2 2:=⟨_,_,Tryz.underlying184,rfl,rfl,by kernel_rfl⟩
theorem ty182:Ty Tryz.prog 182 (Rep.slice Filter_.rep):=⟨⟨_,Tryz.underlying182,rfl⟩,by kernel_rfl,(λ _=>rfl)⟩
theorem ti55:TI Tryz.prog 55 (.agg #[.int .u16 0,.int .u32 0,.int .u16 0,.int .u8 0,.int .u8 0,.int .u8 0,.bool false,.int .u8 0,.int .u8 0,.int .u8 0]) 10 20:=TI.of (by kernel_rfl)
theorem pl55:PL Tryz.prog 55 [(0,1),(1,1),(2,1),(3,1),(4,1),(5,1),(6,1),(7,3)]:=⟨_,Tryz.underlying55,by kernel_rfl⟩
theorem ty55:Ty Tryz.prog 55 Event_.rep:=⟨⟨_,Tryz.underlying55,rfl⟩,by kernel_rfl,(λ h=>Bool.noConfusion h)⟩
theorem ti53:TI Tryz.prog 53 (.agg #[.int .u8 0,.int .u8 0,.int .u8 0]) 3 3:=TI.of (by kernel_rfl)
theorem ty288:Ty Tryz.prog 288 Change_.rep:=⟨⟨_,Tryz.underlying288,rfl⟩,by kernel_rfl,(λ h=>Bool.noConfusion h)⟩
theorem fa288_1:FA Tryz.prog 288 1 1:=⟨_,_,Tryz.underlying288,rfl,rfl,by kernel_rfl⟩
theorem fa288_0:FA Tryz.prog 288 0 0:=⟨_,_,Tryz.underlying288,rfl,rfl,by kernel_rfl⟩
theorem fa74_1:FA Tryz.prog 74 1 1:=⟨_,_,Tryz.underlying74,rfl,rfl,by kernel_rfl⟩
theorem fa184_1:FA Tryz.prog 184 1 1:=⟨_,_,Tryz.underlying184,rfl,rfl,by kernel_rfl⟩
theorem ty76:Ty Tryz.prog 76 (Rep.slice Association_.rep):=⟨⟨_,Tryz.underlying76,rfl⟩,by kernel_rfl,(λ _=>rfl)⟩
theorem fa74_4:FA Tryz.prog 74 4 4:=⟨_,_,Tryz.underlying74,rfl,rfl,by kernel_rfl⟩
theorem fa74_13:FA Tryz.prog 74 13 26:=⟨_,_,Tryz.underlying74,rfl,rfl,by kernel_rfl⟩
theorem pl93:PL Tryz.prog 93 [(0,1),(1,1),(2,1),(3,1)]:=⟨_,Tryz.underlying93,by kernel_rfl⟩
theorem fa169_12:FA Tryz.prog 169 12 12:=⟨_,_,Tryz.underlying169,rfl,rfl,by kernel_rfl⟩
theorem fa169_0:FA Tryz.prog 169 0 0:=⟨_,_,Tryz.underlying169,rfl,rfl,by kernel_rfl⟩
theorem ty31:Ty Tryz.prog 31 Rep.lnk0:=⟨⟨_,Tryz.underlying31,rfl⟩,by kernel_rfl,(λ _=>rfl)⟩
theorem fa166_3:FA Tryz.prog 166 3 3:=⟨_,_,Tryz.underlying166,rfl,rfl,by kernel_rfl⟩
theorem fa166_4:FA Tryz.prog 166 4 4:=⟨_,_,Tryz.underlying166,rfl,rfl,by kernel_rfl⟩
theorem fa169_1:FA Tryz.prog 169 1 1:=⟨_,_,Tryz.underlying169,rfl,rfl,by kernel_rfl⟩
theorem fa169_2:FA Tryz.prog 169 2 2:=⟨_,_,Tryz.underlying169,rfl,rfl,by kernel_rfl⟩
theorem fa169_7:FA Tryz.prog 169 7 7:=⟨_,_,Tryz.underlying169,rfl,rfl,by kernel_rfl⟩
theorem fa169_6:FA Tryz.prog 169 6 6:=⟨_,_,Tryz.underlying169,rfl,rfl,by kernel_rfl⟩
theorem fa169_8:FA Tryz.prog 169 8 8:=⟨_,_,Tryz.underlying169,rfl,rfl,by kernel_rfl⟩
theorem ty167:Ty Tryz.prog 167 (Rep.slice eventlog_record.rep):=⟨⟨_,Tryz.underlying167,rfl⟩,by kernel_rfl,(λ _=>rfl)⟩
theorem fa55_6:FA Tryz.prog 55 6 6:=⟨_,_,Tryz.underlying55,rfl,rfl,by kernel_rfl⟩
theorem fa55_2:FA Tryz.prog 55 2 2:=⟨_,_,Tryz.underlying55,rfl,rfl,by kernel_rfl⟩
theorem fa55_3:FA Tryz.prog 55 3 3:=⟨_,_,Tryz.underlying55,rfl,rfl,by kernel_rfl⟩
theorem fa55_4:FA Tryz.prog 55 4 4:=⟨_,_,Tryz.underlying55,rfl,rfl,by kernel_rfl⟩
theorem fa55_7:FA Tryz.prog 55 7 7:=⟨_,_,Tryz.underlying55,rfl,rfl,by kernel_rfl⟩
theorem pl200:PL Tryz.prog 200 [(0,1),(1,10)]:=⟨_,Tryz.underlying200,by kernel_rfl⟩
theorem ti200:TI Tryz.prog 200 (.agg #[.int .i64 0,.int .u16 0,.int .u32 0,.int .u16 0,.int .u8 0,.int .u8 0,.int .u8 0,.bool false,.int .u8 0,.int .u8 0,.int .u8 0]) 11 32:=TI.of (by kernel_rfl)
theorem pl69:PL Tryz.prog 69 [(0,1),(1,1),(2,1),(3,1),(4,1),(5,1),(6,1)]:=⟨_,Tryz.underlying69,by kernel_rfl⟩
theorem ti70:TI Tryz.prog 70 (.agg #[.int .u8 0,.int .u8 0,.int .u8 0,.int .u8 0,.int .u8 0,.int .u8 0]) 6 6:=TI.of (by kernel_rfl)
theorem pl74:PL Tryz.prog 74 [(0,1),(1,1),(2,1),(3,1),(4,2),(6,1),(7,7),(14,7),(21,1),(22,1),(23,1),(24,1),(25,1),(26,1),(27,1)]:=⟨_,Tryz.underlying74,by kernel_rfl⟩
theorem pl163:PL Tryz.prog 163 [(0,1),(1,1)]:=⟨_,Tryz.underlying163,by kernel_rfl⟩
theorem ti163:TI Tryz.prog 163 (.agg #[.slice none 0 0,.int .i64 0]) 2 32:=TI.of (by kernel_rfl)
theorem fa163_1:FA Tryz.prog 163 1 1:=⟨_,_,Tryz.underlying163,rfl,rfl,by kernel_rfl⟩
theorem fa163_0:FA Tryz.prog 163 0 0:=⟨_,_,Tryz.underlying163,rfl,rfl,by kernel_rfl⟩
theorem ti279:TI Tryz.prog 279 (.agg #[.int .u8 0,.int .u8 0,.int .u8 0,.int .u8 0,.int .u8 0,.int .u8 0,.int .u8 0,.int .u8 0]) 8 8:=TI.of (by kernel_rfl)
theorem ty279:Ty Tryz.prog 279 (Rep.arr 8 (Rep.int .u8)):=⟨⟨_,Tryz.underlying279,rfl⟩,by kernel_rfl,(λ h=>Bool.noConfusion h)⟩
theorem ti2:TI Tryz.prog 2 (.int .i64 0) 1 8:=TI.of (by kernel_rfl)
theorem ti366:TI Tryz.prog 366 (.agg #[.int .i64 0,.int .i64 0,.int .i64 0,.int .i64 0,.int .i64 0,.int .i64 0,.int .i64 0,.int .i64 0]) 8 64:=TI.of (by kernel_rfl)
theorem ty366:Ty Tryz.prog 366 (Rep.arr 8 (Rep.int .i64)):=⟨⟨_,Tryz.underlying366,rfl⟩,by kernel_rfl,(λ h=>Bool.noConfusion h)⟩
theorem pl211:PL Tryz.prog 211 [(0,1),(1,1)]:=⟨_,Tryz.underlying211,by kernel_rfl⟩
theorem ti346:TI Tryz.prog 346 (.agg #[.int .i64 0,.int .i64 0,.int .i64 0,.int .i64 0,.int .i64 0,.int .i64 0]) 6 48:=TI.of (by kernel_rfl)
theorem ty346:Ty Tryz.prog 346 (Rep.arr 6 (Rep.int .i64)):=⟨⟨_,Tryz.underlying346,rfl⟩,by kernel_rfl,(λ h=>Bool.noConfusion h)⟩
theorem pl83:PL Tryz.prog 83 [(0,2),(2,2)]:=⟨_,Tryz.underlying83,by kernel_rfl⟩
theorem fa215_1:FA Tryz.prog 215 1 2:=⟨_,_,Tryz.underlying215,rfl,rfl,by kernel_rfl⟩
theorem fa66_0:FA Tryz.prog 66 0 0:=⟨_,_,Tryz.underlying66,rfl,rfl,by kernel_rfl⟩
theorem fa66_1:FA Tryz.prog 66 1 1:=⟨_,_,Tryz.underlying66,rfl,rfl,by kernel_rfl⟩
theorem ty215:Ty Tryz.prog 215 Condition_.rep:=⟨⟨_,Tryz.underlying215,rfl⟩,by kernel_rfl,(λ h=>Bool.noConfusion h)⟩
theorem ti215:TI Tryz.prog 215 (.agg #[.int .u8 0,.int .u8 0,.int .i64 0]) 3 16:=TI.of (by kernel_rfl)
theorem fa215_0:FA Tryz.prog 215 0 0:=⟨_,_,Tryz.underlying215,rfl,rfl,by kernel_rfl⟩
theorem pl215:PL Tryz.prog 215 [(0,2),(2,1)]:=⟨_,Tryz.underlying215,by kernel_rfl⟩
theorem rd3:Rd Tryz.prog 3 (.int .i64) (okI .i64):=Rd.int Tryz.underlying3
theorem rd22:Rd Tryz.prog 22 (Rep.slice (Rep.int .i64)) (okL (okI .i64)):=Rd.slice Tryz.underlying22 (by kernel_rfl) rfl rd3
theorem rd23:Rd Tryz.prog 23 (Rep.slice (Rep.slice (Rep.int .i64))) (okL (okL (okI .i64))):=Rd.slice Tryz.underlying23 (by kernel_rfl) rfl rd22
theorem rd5:Rd Tryz.prog 5 (.int .u8) (okI .u8):=Rd.int Tryz.underlying5
theorem rd66:Rd Tryz.prog 66 Entity_.rep Entity_.ok:=Rd.struct _ (λ p=>⟨p.1,p.2.1⟩) (λ _=>rfl) Tryz.underlying66 (by kernel_rfl) (.cons rfl (by kernel_rfl) rd5 (.cons rfl (by kernel_rfl) rd5 .nil))
end Lift
