import Derived.Test.YtahlmfpllhmjoaaGreatDoorPlain
import Derived.Test.YtahlmfpllhmjoaaGreatDoorChecked
set_option linter.unusedVariables false
set_option linter.unusedSimpArgs false
namespace Lift
open Go Go.Proofs
abbrev Qd.repW (w0_ w1_:Value):Rep Qd:=Rep.iso (λ s:Qd=>(s.sensors,s.l,s.filters,s.states,())) (Rep.prod (Rep.slice Sensor_.rep) (Rep.prod (Rep.slice Association_.rep) (Rep.prod (Rep.raw (α:=List Filter_) w0_) (Rep.prod (Rep.raw (α:=List Int) w1_) Rep.unit))))
abbrev Qd.mem (q_:Value) (x_:Qd):HAtom:=.ex λ w0_=>.ex λ w1_=>.sep (.box 184 (Qd.repW w0_ w1_) q_ x_) (.sep (.slice 188 Filter_.rep w0_ x_.filters) (.slice 49 (Rep.int .u16) w1_ x_.states))
abbrev Qc.repW (w0_ w1_:Value):Rep Qc:=Rep.iso (λ s:Qc=>(s.size,s.bytes,s.wear,s.steps,s.left,s.torn,s.down,())) (Rep.prod (Rep.int .i64) (Rep.prod (Rep.raw (α:=List Int) w0_) (Rep.prod (Rep.raw (α:=List Int) w1_) (Rep.prod (Rep.int .i64) (Rep.prod (Rep.int .i64) (Rep.prod (Rep.int .u8) (Rep.prod Rep.bool Rep.unit)))))))
abbrev Qc.mem (q_:Value) (x_:Qc):HAtom:=.ex λ w0_=>.ex λ w1_=>.sep (.box 166 (Qc.repW w0_ w1_) q_ x_) (.sep (.slice 5 (Rep.int .u8) w0_ x_.bytes) (.slice 3 (Rep.int .i64) w1_ x_.wear))
abbrev Qb.repW (w0_ w1_:Value):Rep Qb:=Rep.iso (λ s:Qb=>(s.d,s.first,s.sectors,s.overwrite,s.newest,s.tail,s.used,s.next,s.records,s.full,s.number,s.held,s.ended,())) (Rep.prod (Rep.raw (α:=Bool) w0_) (Rep.prod (Rep.int .i64) (Rep.prod (Rep.int .i64) (Rep.prod Rep.bool (Rep.prod (Rep.int .i64) (Rep.prod (Rep.int .i64) (Rep.prod (Rep.int .i64) (Rep.prod (Rep.int .u16) (Rep.prod (Rep.raw (α:=List Qe) w1_) (Rep.prod Rep.bool (Rep.prod (Rep.int .u16) (Rep.prod Rep.bool (Rep.prod Rep.bool Rep.unit)))))))))))))
abbrev Qb.mem (l_:Value) (q_:Value) (x_:Qb):HAtom:=.ex λ w0_=>.ex λ w1_=>.sep (.box 169 (Qb.repW w0_ w1_) q_ x_) (.sep (.lnk l_ w0_ x_.d) (.slice 200 Qe.rep w1_ x_.records))
theorem Qnq:FA Tryz.prog 74 6 7:=⟨_,_,Tryz.underlying74,rfl,rfl,by kernel_rfl⟩
theorem ty69:Ty Tryz.prog 69 Conversion_.rep:=⟨⟨_,Tryz.underlying69,rfl⟩,by kernel_rfl,(λ h=>Bool.noConfusion h)⟩
theorem ti69:TI Tryz.prog 69 (.agg #[.int .i64 0,.bool false,.int .i64 0,.int .i64 0,.int .i64 0,.int .i64 0,.slice none 0 0]) 7 72:=TI.of (by kernel_rfl)
theorem Qry:FA Tryz.prog 69 0 0:=⟨_,_,Tryz.underlying69,rfl,rfl,by kernel_rfl⟩
theorem ty3:Ty Tryz.prog 3 (Rep.int .i64):=⟨⟨_,Tryz.underlying3,rfl⟩,by kernel_rfl,(λ _=>rfl)⟩
theorem Qns:FA Tryz.prog 69 1 1:=⟨_,_,Tryz.underlying69,rfl,rfl,by kernel_rfl⟩
theorem ty4:Ty Tryz.prog 4 Rep.bool:=⟨⟨_,Tryz.underlying4,rfl⟩,by kernel_rfl,(λ _=>rfl)⟩
theorem Qoc:FA Tryz.prog 69 2 2:=⟨_,_,Tryz.underlying69,rfl,rfl,by kernel_rfl⟩
theorem Qoi:FA Tryz.prog 69 3 3:=⟨_,_,Tryz.underlying69,rfl,rfl,by kernel_rfl⟩
theorem Qph:FA Tryz.prog 69 4 4:=⟨_,_,Tryz.underlying69,rfl,rfl,by kernel_rfl⟩
theorem Qpd:FA Tryz.prog 69 5 5:=⟨_,_,Tryz.underlying69,rfl,rfl,by kernel_rfl⟩
theorem Qnu:FA Tryz.prog 69 6 6:=⟨_,_,Tryz.underlying69,rfl,rfl,by kernel_rfl⟩
theorem ty67:Ty Tryz.prog 67 (Rep.slice Point_.rep):=⟨⟨_,Tryz.underlying67,rfl⟩,by kernel_rfl,(λ _=>rfl)⟩
theorem Qnm:FA Tryz.prog 74 7 14:=⟨_,_,Tryz.underlying74,rfl,rfl,by kernel_rfl⟩
theorem ty72:Ty Tryz.prog 72 Thresholds_.rep:=⟨⟨_,Tryz.underlying72,rfl⟩,by kernel_rfl,(λ h=>Bool.noConfusion h)⟩
theorem pl72:PL Tryz.prog 72 [(0,1),(1,6)]:=⟨_,Tryz.underlying72,by kernel_rfl⟩
theorem ti72:TI Tryz.prog 72 (.agg #[.int .u8 0,.int .u8 0,.int .u8 0,.int .u8 0,.int .u8 0,.int .u8 0,.int .u8 0]) 7 7:=TI.of (by kernel_rfl)
theorem ty70:Ty Tryz.prog 70 (Rep.arr 6 (Rep.int .u8)):=⟨⟨_,Tryz.underlying70,rfl⟩,by kernel_rfl,(λ h=>Bool.noConfusion h)⟩
theorem ty5:Ty Tryz.prog 5 (Rep.int .u8):=⟨⟨_,Tryz.underlying5,rfl⟩,by kernel_rfl,(λ _=>rfl)⟩
theorem eqt5:EqT Tryz.prog 5 (Rep.int .u8) eqI 1:=EqT.int Tryz.underlying5
theorem eqt70:EqT Tryz.prog 70 (Rep.arr 6 (Rep.int .u8)) (eqL eqI) 2:=EqT.arr Tryz.underlying70 ty5 eqt5
theorem eqt72:EqT Tryz.prog 72 Thresholds_.rep Thresholds_.eqb 3:=EqT.struct (k:=2) (ps:=[(0,5),(1,70)]) ⟨_,Tryz.underlying72,by kernel_rfl,by kernel_rfl⟩ rfl (EqF.cons Thresholds_.f0 ty5 (eqt5.up rfl) (EqF.cons Thresholds_.f1 ty70 (eqt70.up rfl) EqF.nil))
theorem gdf72:GdF Tryz.prog 72:=by unfold GdF;kernel_rfl
theorem Qru:FA Tryz.prog 74 8 21:=⟨_,_,Tryz.underlying74,rfl,rfl,by kernel_rfl⟩
theorem Qpj:FA Tryz.prog 74 9 22:=⟨_,_,Tryz.underlying74,rfl,rfl,by kernel_rfl⟩
theorem Qga:FA Tryz.prog 74 14 27:=⟨_,_,Tryz.underlying74,rfl,rfl,by kernel_rfl⟩
theorem Qen:FA Tryz.prog 74 10 23:=⟨_,_,Tryz.underlying74,rfl,rfl,by kernel_rfl⟩
theorem ty49:Ty Tryz.prog 49 (Rep.int .u16):=⟨⟨_,Tryz.underlying49,rfl⟩,by kernel_rfl,(λ _=>rfl)⟩
theorem Qhp:FA Tryz.prog 74 11 24:=⟨_,_,Tryz.underlying74,rfl,rfl,by kernel_rfl⟩
theorem Qhs:FA Tryz.prog 74 12 25:=⟨_,_,Tryz.underlying74,rfl,rfl,by kernel_rfl⟩
theorem ty211:Ty Tryz.prog 211 Point_.rep:=⟨⟨_,Tryz.underlying211,rfl⟩,by kernel_rfl,(λ h=>Bool.noConfusion h)⟩
theorem ti211:TI Tryz.prog 211 (.agg #[.int .u8 0,.int .i64 0]) 2 16:=TI.of (by kernel_rfl)
theorem Qje:FA Tryz.prog 211 1 1:=⟨_,_,Tryz.underlying211,rfl,rfl,by kernel_rfl⟩
theorem ty2:Ty Tryz.prog 2 (Rep.int .i64):=⟨⟨_,Tryz.underlying2,rfl⟩,by kernel_rfl,(λ _=>rfl)⟩
theorem Qtr:FA Tryz.prog 211 0 0:=⟨_,_,Tryz.underlying211,rfl,rfl,by kernel_rfl⟩
theorem Qi:Tryz.prog.follows .mixedOrders=true:=Tryz.checked.mixed
theorem ti3:TI Tryz.prog 3 (.int .i64 0) 1 8:=TI.of (by kernel_rfl)
theorem Qnt:FA Tryz.prog 72 0 0:=⟨_,_,Tryz.underlying72,rfl,rfl,by kernel_rfl⟩
theorem Qnz:FA Tryz.prog 72 1 1:=⟨_,_,Tryz.underlying72,rfl,rfl,by kernel_rfl⟩
theorem ty74:Ty Tryz.prog 74 Sensor_.rep:=⟨⟨_,Tryz.underlying74,rfl⟩,by kernel_rfl,(λ h=>Bool.noConfusion h)⟩
theorem fa74_3:FA Tryz.prog 74 3 3:=⟨_,_,Tryz.underlying74,rfl,rfl,by kernel_rfl⟩
theorem ty9:Ty Tryz.prog 9 Rep.str:=⟨⟨_,Tryz.underlying9,rfl⟩,by kernel_rfl,(λ _=>rfl)⟩
theorem Qnn:FA Tryz.prog 74 5 6:=⟨_,_,Tryz.underlying74,rfl,rfl,by kernel_rfl⟩
theorem ti74:TI Tryz.prog 74 (.agg #[.int .u8 0,.int .u8 0,.int .u8 0,.string ⟨#[]⟩,.int .u8 0,.int .u8 0,.bool false,.int .i64 0,.bool false,.int .i64 0,.int .i64 0,.int .i64 0,.int .i64 0,.slice none 0 0,.int .u8 0,.int .u8 0,.int .u8 0,.int .u8 0,.int .u8 0,.int .u8 0,.int .u8 0,.int .u8 0,.int .u8 0,.int .u16 0,.int .u16 0,.int .u16 0,.bool false,.int .i64 0]) 28 136:=TI.of (by kernel_rfl)
theorem Qnr:FA Tryz.prog 74 0 0:=⟨_,_,Tryz.underlying74,rfl,rfl,by kernel_rfl⟩
theorem Qod:FA Tryz.prog 83 1 2:=⟨_,_,Tryz.underlying83,rfl,rfl,by kernel_rfl⟩
theorem ty66:Ty Tryz.prog 66 Entity_.rep:=⟨⟨_,Tryz.underlying66,rfl⟩,by kernel_rfl,(λ h=>Bool.noConfusion h)⟩
theorem ti66:TI Tryz.prog 66 (.agg #[.int .u8 0,.int .u8 0]) 2 2:=TI.of (by kernel_rfl)
theorem ty83:Ty Tryz.prog 83 Association_.rep:=⟨⟨_,Tryz.underlying83,rfl⟩,by kernel_rfl,(λ h=>Bool.noConfusion h)⟩
theorem eqt66:EqT Tryz.prog 66 Entity_.rep Entity_.eqb 2:=EqT.struct (k:=1) (ps:=[(0,5),(1,5)]) ⟨_,Tryz.underlying66,by kernel_rfl,by kernel_rfl⟩ rfl (EqF.cons Entity_.f0 ty5 (eqt5.up rfl) (EqF.cons Entity_.f1 ty5 (eqt5.up rfl) EqF.nil))
theorem gdf66:GdF Tryz.prog 66:=by unfold GdF;kernel_rfl
theorem pl66:PL Tryz.prog 66 [(0,1),(1,1)]:=⟨_,Tryz.underlying66,by kernel_rfl⟩
theorem fa83_0:FA Tryz.prog 83 0 0:=⟨_,_,Tryz.underlying83,rfl,rfl,by kernel_rfl⟩
theorem ti83:TI Tryz.prog 83 (.agg #[.int .u8 0,.int .u8 0,.int .u8 0,.int .u8 0]) 4 4:=TI.of (by kernel_rfl)
theorem keyt66:KeyT Tryz.prog 66 Entity_.rep Entity_.eqb:=KeyT.struct (ps:=[(0,5),(1,5)]) ⟨_,Tryz.underlying66,by kernel_rfl,by kernel_rfl⟩ rfl eqt66 (by rfl) (by intro p hp;simp only [List.mem_cons,List.not_mem_nil,or_false] at hp;rcases hp with rfl | rfl;exact CkP.int Entity_.f0 ty5 Tryz.underlying5;exact CkP.int Entity_.f1 ty5 Tryz.underlying5) (Kb.iso _ (Kb.prod Kb.int (Kb.prod Kb.int Kb.unit)))
theorem ti4:TI Tryz.prog 4 (.bool false) 1 1:=TI.of (by kernel_rfl)
theorem ti188:TI Tryz.prog 188 (.agg #[.slice none 0 0,.int .i64 0]) 2 32:=TI.of (by kernel_rfl)
theorem ti49:TI Tryz.prog 49 (.int .u16 0) 1 2:=TI.of (by kernel_rfl)
theorem pl184:PL Tryz.prog 184 [(0,1),(1,1),(2,1),(3,1)]:=⟨_,Tryz.underlying184,by kernel_rfl⟩
theorem ti184:TI Tryz.prog 184 (.agg #[.slice none 0 0,.slice none 0 0,.slice none 0 0,.slice none 0 0]) 4 96:=TI.of (by kernel_rfl)
theorem Qhm:FA Tryz.prog 184 0 0:=⟨_,_,Tryz.underlying184,rfl,rfl,by kernel_rfl⟩
theorem ty27:Ty Tryz.prog 27 (Rep.slice Sensor_.rep):=⟨⟨_,Tryz.underlying27,rfl⟩,by kernel_rfl,(λ _=>rfl)⟩
theorem ti5:TI Tryz.prog 5 (.int .u8 0) 1 1:=TI.of (by kernel_rfl)
theorem pl166:PL Tryz.prog 166 [(0,1),(1,1),(2,1),(3,1),(4,1),(5,1),(6,1)]:=⟨_,Tryz.underlying166,by kernel_rfl⟩
theorem ti166:TI Tryz.prog 166 (.agg #[.int .i64 0,.slice none 0 0,.slice none 0 0,.int .i64 0,.int .i64 0,.int .u8 0,.bool false]) 7 80:=TI.of (by kernel_rfl)
theorem Qpr:FA Tryz.prog 166 2 2:=⟨_,_,Tryz.underlying166,rfl,rfl,by kernel_rfl⟩
theorem ty22:Ty Tryz.prog 22 (Rep.slice (Rep.int .i64)):=⟨⟨_,Tryz.underlying22,rfl⟩,by kernel_rfl,(λ _=>rfl)⟩
theorem Qpp:FA Tryz.prog 166 0 0:=⟨_,_,Tryz.underlying166,rfl,rfl,by kernel_rfl⟩
theorem Qiw:FA Tryz.prog 166 1 1:=⟨_,_,Tryz.underlying166,rfl,rfl,by kernel_rfl⟩
theorem ty24:Ty Tryz.prog 24 (Rep.slice (Rep.int .u8)):=⟨⟨_,Tryz.underlying24,rfl⟩,by kernel_rfl,(λ _=>rfl)⟩
theorem Qgc:FA Tryz.prog 166 6 6:=⟨_,_,Tryz.underlying166,rfl,rfl,by kernel_rfl⟩
theorem ti174:TI Tryz.prog 174 (.agg #[.int .i64 0,.int .i64 0,.int .u16 0]) 3 24:=TI.of (by kernel_rfl)
theorem pl174:PL Tryz.prog 174 [(0,1),(1,1),(2,1)]:=⟨_,Tryz.underlying174,by kernel_rfl⟩
theorem ty174:Ty Tryz.prog 174 Qf.rep:=⟨⟨_,Tryz.underlying174,rfl⟩,by kernel_rfl,(λ h=>Bool.noConfusion h)⟩
theorem Qcx:FA Tryz.prog 174 0 0:=⟨_,_,Tryz.underlying174,rfl,rfl,by kernel_rfl⟩
theorem Qkf:FA Tryz.prog 169 2 2:=⟨_,_,Tryz.underlying169,rfl,rfl,by kernel_rfl⟩
theorem Qho:FA Tryz.prog 174 1 1:=⟨_,_,Tryz.underlying174,rfl,rfl,by kernel_rfl⟩
theorem Qok:FA Tryz.prog 174 2 2:=⟨_,_,Tryz.underlying174,rfl,rfl,by kernel_rfl⟩
theorem Qnv:FA Tryz.prog 55 0 0:=⟨_,_,Tryz.underlying55,rfl,rfl,by kernel_rfl⟩
theorem Qof:FA Tryz.prog 55 1 1:=⟨_,_,Tryz.underlying55,rfl,rfl,by kernel_rfl⟩
theorem ty52:Ty Tryz.prog 52 (Rep.int .u32):=⟨⟨_,Tryz.underlying52,rfl⟩,by kernel_rfl,(λ _=>rfl)⟩
theorem Qpl:FA Tryz.prog 55 5 5:=⟨_,_,Tryz.underlying55,rfl,rfl,by kernel_rfl⟩
theorem ti55:TI Tryz.prog 55 (.agg #[.int .u16 0,.int .u32 0,.int .u16 0,.int .u8 0,.int .u8 0,.int .u8 0,.bool false,.int .u8 0,.int .u8 0,.int .u8 0]) 10 20:=TI.of (by kernel_rfl)
theorem pl55:PL Tryz.prog 55 [(0,1),(1,1),(2,1),(3,1),(4,1),(5,1),(6,1),(7,3)]:=⟨_,Tryz.underlying55,by kernel_rfl⟩
theorem ty55:Ty Tryz.prog 55 Event_.rep:=⟨⟨_,Tryz.underlying55,rfl⟩,by kernel_rfl,(λ h=>Bool.noConfusion h)⟩
theorem ty53:Ty Tryz.prog 53 (Rep.arr 3 (Rep.int .u8)):=⟨⟨_,Tryz.underlying53,rfl⟩,by kernel_rfl,(λ h=>Bool.noConfusion h)⟩
theorem Qer:FA Tryz.prog 169 4 4:=⟨_,_,Tryz.underlying169,rfl,rfl,by kernel_rfl⟩
theorem Qjd:FA Tryz.prog 169 7 7:=⟨_,_,Tryz.underlying169,rfl,rfl,by kernel_rfl⟩
theorem Qiz:FA Tryz.prog 169 6 6:=⟨_,_,Tryz.underlying169,rfl,rfl,by kernel_rfl⟩
theorem Qgv:FA Tryz.prog 169 8 8:=⟨_,_,Tryz.underlying169,rfl,rfl,by kernel_rfl⟩
theorem ty167:Ty Tryz.prog 167 (Rep.slice Qe.rep):=⟨⟨_,Tryz.underlying167,rfl⟩,by kernel_rfl,(λ _=>rfl)⟩
theorem pl200:PL Tryz.prog 200 [(0,1),(1,10)]:=⟨_,Tryz.underlying200,by kernel_rfl⟩
theorem ti200:TI Tryz.prog 200 (.agg #[.int .i64 0,.int .u16 0,.int .u32 0,.int .u16 0,.int .u8 0,.int .u8 0,.int .u8 0,.bool false,.int .u8 0,.int .u8 0,.int .u8 0]) 11 32:=TI.of (by kernel_rfl)
theorem pl169:PL Tryz.prog 169 [(0,1),(1,1),(2,1),(3,1),(4,1),(5,1),(6,1),(7,1),(8,1),(9,1),(10,1),(11,1),(12,1)]:=⟨_,Tryz.underlying169,by kernel_rfl⟩
theorem ti169:TI Tryz.prog 169 (.agg #[.pointer none,.int .i64 0,.int .i64 0,.bool false,.int .i64 0,.int .i64 0,.int .i64 0,.int .u16 0,.slice none 0 0,.bool false,.int .u16 0,.bool false,.bool false]) 13 96:=TI.of (by kernel_rfl)
theorem ti24:TI Tryz.prog 24 (.slice none 0 0) 1 24:=TI.of (by kernel_rfl)
theorem Qom:FA Tryz.prog 169 5 5:=⟨_,_,Tryz.underlying169,rfl,rfl,by kernel_rfl⟩
theorem ty93:Ty Tryz.prog 93 Sample_.rep:=⟨⟨_,Tryz.underlying93,rfl⟩,by kernel_rfl,(λ h=>Bool.noConfusion h)⟩
theorem ti93:TI Tryz.prog 93 (.agg #[.int .u8 0,.bool false,.int .u8 0,.int .u16 0]) 4 6:=TI.of (by kernel_rfl)
theorem Qoh:FA Tryz.prog 93 0 0:=⟨_,_,Tryz.underlying93,rfl,rfl,by kernel_rfl⟩
theorem Qob:FA Tryz.prog 93 1 1:=⟨_,_,Tryz.underlying93,rfl,rfl,by kernel_rfl⟩
theorem Qnx:FA Tryz.prog 93 2 2:=⟨_,_,Tryz.underlying93,rfl,rfl,by kernel_rfl⟩
theorem Qnw:FA Tryz.prog 93 3 3:=⟨_,_,Tryz.underlying93,rfl,rfl,by kernel_rfl⟩
theorem ty43:Ty Tryz.prog 43 (Rep.slice Entity_.rep):=⟨⟨_,Tryz.underlying43,rfl⟩,by kernel_rfl,(λ _=>rfl)⟩
theorem pl288:PL Tryz.prog 288 [(0,1),(1,1)]:=⟨_,Tryz.underlying288,by kernel_rfl⟩
theorem ti288:TI Tryz.prog 288 (.agg #[.int .i64 0,.bool false]) 2 16:=TI.of (by kernel_rfl)
theorem Qew:FA Tryz.prog 188 0 0:=⟨_,_,Tryz.underlying188,rfl,rfl,by kernel_rfl⟩
theorem Qix:FA Tryz.prog 188 1 1:=⟨_,_,Tryz.underlying188,rfl,rfl,by kernel_rfl⟩
theorem ty188:Ty Tryz.prog 188 Filter_.rep:=⟨⟨_,Tryz.underlying188,rfl⟩,by kernel_rfl,(λ h=>Bool.noConfusion h)⟩
theorem pl188:PL Tryz.prog 188 [(0,1),(1,1)]:=⟨_,Tryz.underlying188,by kernel_rfl⟩
theorem Qjb:FA Tryz.prog 184 3 3:=⟨_,_,Tryz.underlying184,rfl,rfl,by kernel_rfl⟩
theorem ty60:Ty Tryz.prog 60 (Rep.slice (Rep.int .u16)):=⟨⟨_,Tryz.underlying60,rfl⟩,by kernel_rfl,(λ _=>rfl)⟩
theorem Qol:FA Tryz.prog 184 2 2:=⟨_,_,Tryz.underlying184,rfl,rfl,by kernel_rfl⟩
theorem ty182:Ty Tryz.prog 182 (Rep.slice Filter_.rep):=⟨⟨_,Tryz.underlying182,rfl⟩,by kernel_rfl,(λ _=>rfl)⟩
theorem ti53:TI Tryz.prog 53 (.agg #[.int .u8 0,.int .u8 0,.int .u8 0]) 3 3:=TI.of (by kernel_rfl)
theorem ty288:Ty Tryz.prog 288 Change_.rep:=⟨⟨_,Tryz.underlying288,rfl⟩,by kernel_rfl,(λ h=>Bool.noConfusion h)⟩
theorem Qpn:FA Tryz.prog 288 1 1:=⟨_,_,Tryz.underlying288,rfl,rfl,by kernel_rfl⟩
theorem Qos:FA Tryz.prog 288 0 0:=⟨_,_,Tryz.underlying288,rfl,rfl,by kernel_rfl⟩
theorem Qog:FA Tryz.prog 74 1 1:=⟨_,_,Tryz.underlying74,rfl,rfl,by kernel_rfl⟩
theorem fa184_1:FA Tryz.prog 184 1 1:=⟨_,_,Tryz.underlying184,rfl,rfl,by kernel_rfl⟩
theorem ty76:Ty Tryz.prog 76 (Rep.slice Association_.rep):=⟨⟨_,Tryz.underlying76,rfl⟩,by kernel_rfl,(λ _=>rfl)⟩
theorem fa74_4:FA Tryz.prog 74 4 4:=⟨_,_,Tryz.underlying74,rfl,rfl,by kernel_rfl⟩
theorem fa74_13:FA Tryz.prog 74 13 26:=⟨_,_,Tryz.underlying74,rfl,rfl,by kernel_rfl⟩
theorem pl93:PL Tryz.prog 93 [(0,1),(1,1),(2,1),(3,1)]:=⟨_,Tryz.underlying93,by kernel_rfl⟩
theorem Qox:FA Tryz.prog 169 12 12:=⟨_,_,Tryz.underlying169,rfl,rfl,by kernel_rfl⟩
theorem Qfn:FA Tryz.prog 169 0 0:=⟨_,_,Tryz.underlying169,rfl,rfl,by kernel_rfl⟩
theorem ty31:Ty Tryz.prog 31 Rep.lnk0:=⟨⟨_,Tryz.underlying31,rfl⟩,by kernel_rfl,(λ _=>rfl)⟩
theorem ty169:Ty Tryz.prog 169 Qb.rep:=⟨⟨_,Tryz.underlying169,rfl⟩,by kernel_rfl,(λ h=>Bool.noConfusion h)⟩
theorem Qtk:FA Tryz.prog 166 3 3:=⟨_,_,Tryz.underlying166,rfl,rfl,by kernel_rfl⟩
theorem Qiy:FA Tryz.prog 166 4 4:=⟨_,_,Tryz.underlying166,rfl,rfl,by kernel_rfl⟩
theorem Qpt:FA Tryz.prog 166 5 5:=⟨_,_,Tryz.underlying166,rfl,rfl,by kernel_rfl⟩
theorem fa200_0:FA Tryz.prog 200 0 0:=⟨_,_,Tryz.underlying200,rfl,rfl,by kernel_rfl⟩
theorem Qte:FA Tryz.prog 169 1 1:=⟨_,_,Tryz.underlying169,rfl,rfl,by kernel_rfl⟩
theorem ty200:Ty Tryz.prog 200 Qe.rep:=⟨⟨_,Tryz.underlying200,rfl⟩,by kernel_rfl,(λ h=>Bool.noConfusion h)⟩
theorem fa169_3:FA Tryz.prog 169 3 3:=⟨_,_,Tryz.underlying169,rfl,rfl,by kernel_rfl⟩
theorem fa169_9:FA Tryz.prog 169 9 9:=⟨_,_,Tryz.underlying169,rfl,rfl,by kernel_rfl⟩
theorem Qup:FA Tryz.prog 55 6 6:=⟨_,_,Tryz.underlying55,rfl,rfl,by kernel_rfl⟩
theorem Qvn:FA Tryz.prog 55 2 2:=⟨_,_,Tryz.underlying55,rfl,rfl,by kernel_rfl⟩
theorem Qpg:FA Tryz.prog 55 3 3:=⟨_,_,Tryz.underlying55,rfl,rfl,by kernel_rfl⟩
theorem Qvb:FA Tryz.prog 55 4 4:=⟨_,_,Tryz.underlying55,rfl,rfl,by kernel_rfl⟩
theorem Qoa:FA Tryz.prog 55 7 7:=⟨_,_,Tryz.underlying55,rfl,rfl,by kernel_rfl⟩
theorem pl69:PL Tryz.prog 69 [(0,1),(1,1),(2,1),(3,1),(4,1),(5,1),(6,1)]:=⟨_,Tryz.underlying69,by kernel_rfl⟩
theorem ti70:TI Tryz.prog 70 (.agg #[.int .u8 0,.int .u8 0,.int .u8 0,.int .u8 0,.int .u8 0,.int .u8 0]) 6 6:=TI.of (by kernel_rfl)
theorem pl74:PL Tryz.prog 74 [(0,1),(1,1),(2,1),(3,1),(4,2),(6,1),(7,7),(14,7),(21,1),(22,1),(23,1),(24,1),(25,1),(26,1),(27,1)]:=⟨_,Tryz.underlying74,by kernel_rfl⟩
theorem pl163:PL Tryz.prog 163 [(0,1),(1,1)]:=⟨_,Tryz.underlying163,by kernel_rfl⟩
theorem ti163:TI Tryz.prog 163 (.agg #[.slice none 0 0,.int .i64 0]) 2 32:=TI.of (by kernel_rfl)
theorem Qot:FA Tryz.prog 163 1 1:=⟨_,_,Tryz.underlying163,rfl,rfl,by kernel_rfl⟩
theorem Qsx:FA Tryz.prog 163 0 0:=⟨_,_,Tryz.underlying163,rfl,rfl,by kernel_rfl⟩
theorem ti279:TI Tryz.prog 279 (.agg #[.int .u8 0,.int .u8 0,.int .u8 0,.int .u8 0,.int .u8 0,.int .u8 0,.int .u8 0,.int .u8 0]) 8 8:=TI.of (by kernel_rfl)
theorem ty279:Ty Tryz.prog 279 (Rep.arr 8 (Rep.int .u8)):=⟨⟨_,Tryz.underlying279,rfl⟩,by kernel_rfl,(λ h=>Bool.noConfusion h)⟩
theorem ti2:TI Tryz.prog 2 (.int .i64 0) 1 8:=TI.of (by kernel_rfl)
theorem ti366:TI Tryz.prog 366 (.agg #[.int .i64 0,.int .i64 0,.int .i64 0,.int .i64 0,.int .i64 0,.int .i64 0,.int .i64 0,.int .i64 0]) 8 64:=TI.of (by kernel_rfl)
theorem ty366:Ty Tryz.prog 366 (Rep.arr 8 (Rep.int .i64)):=⟨⟨_,Tryz.underlying366,rfl⟩,by kernel_rfl,(λ h=>Bool.noConfusion h)⟩
theorem pl211:PL Tryz.prog 211 [(0,1),(1,1)]:=⟨_,Tryz.underlying211,by kernel_rfl⟩
theorem ti346:TI Tryz.prog 346 (.agg #[.int .i64 0,.int .i64 0,.int .i64 0,.int .i64 0,.int .i64 0,.int .i64 0]) 6 48:=TI.of (by kernel_rfl)
theorem ty346:Ty Tryz.prog 346 (Rep.arr 6 (Rep.int .i64)):=⟨⟨_,Tryz.underlying346,rfl⟩,by kernel_rfl,(λ h=>Bool.noConfusion h)⟩
theorem fa200_1:FA Tryz.prog 200 1 1:=⟨_,_,Tryz.underlying200,rfl,rfl,by kernel_rfl⟩
theorem eqt53:EqT Tryz.prog 53 (Rep.arr 3 (Rep.int .u8)) (eqL eqI) 2:=EqT.arr Tryz.underlying53 ty5 eqt5
theorem eqt4:EqT Tryz.prog 4 Rep.bool eqB 1:=EqT.bool Tryz.underlying4
theorem eqt49:EqT Tryz.prog 49 (Rep.int .u16) eqI 1:=EqT.int Tryz.underlying49
theorem eqt52:EqT Tryz.prog 52 (Rep.int .u32) eqI 1:=EqT.int Tryz.underlying52
theorem eqt55:EqT Tryz.prog 55 Event_.rep Event_.eqb 3:=EqT.struct (k:=2) (ps:=[(0,49),(1,52),(2,49),(3,5),(4,5),(5,5),(6,4),(7,53)]) ⟨_,Tryz.underlying55,by kernel_rfl,by kernel_rfl⟩ rfl (EqF.cons Event_.f0 ty49 (eqt49.up rfl) (EqF.cons Event_.f1 ty52 (eqt52.up rfl) (EqF.cons Event_.f2 ty49 (eqt49.up rfl) (EqF.cons Event_.f3 ty5 (eqt5.up rfl) (EqF.cons Event_.f4 ty5 (eqt5.up rfl) (EqF.cons Event_.f5 ty5 (eqt5.up rfl) (EqF.cons Event_.f6 ty4 (eqt4.up rfl) (EqF.cons Event_.f7 ty53 (eqt53.up rfl) EqF.nil))))))))
theorem gdf55:GdF Tryz.prog 55:=by unfold GdF;kernel_rfl
theorem rd3:Rd Tryz.prog 3 (.int .i64) (okI .i64):=Rd.int Tryz.underlying3
theorem rd22:Rd Tryz.prog 22 (Rep.slice (Rep.int .i64)) (okL (okI .i64)):=Rd.slice Tryz.underlying22 (by kernel_rfl) rfl rd3
theorem rd23:Rd Tryz.prog 23 (Rep.slice (Rep.slice (Rep.int .i64))) (okL (okL (okI .i64))):=Rd.slice Tryz.underlying23 (by kernel_rfl) rfl rd22
theorem rd5:Rd Tryz.prog 5 (.int .u8) (okI .u8):=Rd.int Tryz.underlying5
theorem rd24:Rd Tryz.prog 24 (Rep.slice (Rep.int .u8)) (okL (okI .u8)):=Rd.slice Tryz.underlying24 (by kernel_rfl) rfl rd5
end Lift
