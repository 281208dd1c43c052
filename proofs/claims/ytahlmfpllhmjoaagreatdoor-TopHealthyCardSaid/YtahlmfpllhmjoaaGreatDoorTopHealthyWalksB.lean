import Derived.Test.YtahlmfpllhmjoaaGreatDoorTopHealthyWalksA
set_option linter.unusedVariables false
set_option linter.unusedSimpArgs false
namespace Lift
open Go Go.Proofs
open RunL (op sr nil gm ga gb gp gk dp du)
abbrev RqB1:Rep eventlog_Log:=Rep.iso (λ s:eventlog_Log=>(s.d,s.first,s.sectors,s.overwrite,s.newest,s.tail,s.used,s.next,s.records,s.full,s.number,s.held,s.ended,())) (Rep.prod Rep.lnk0 (Rep.prod (Rep.int .i64) (Rep.prod (Rep.int .i64) (Rep.prod Rep.bool (Rep.prod (Rep.int .i64) (Rep.prod (Rep.int .i64) (Rep.prod (Rep.int .i64) (Rep.prod (Rep.int .u16) (Rep.prod (Rep.raw (α:=List eventlog_record) (.slice none 0 0)) (Rep.prod Rep.bool (Rep.prod (Rep.int .u16) (Rep.prod Rep.bool (Rep.prod Rep.bool Rep.unit)))))))))))))
abbrev RqB2:Rep Filter_:=Rep.iso (λ s:Filter_=>(s.Window,s.Missing,())) (Rep.prod (Rep.raw (α:=List Int) (.slice none 0 0)) (Rep.prod (Rep.int .i64) Rep.unit))
set_option maxHeartbeats 8000000 in set_option maxRecDepth 20000 in
theorem eventlog_Log_header_ok {fuel:Nat} {a0:eventlog_Log} {a1:List Int} {a2:Int} {y:eventlog_head×Bool} (hF:eventlog_Log_header fuel a0 a1 a2=some y) {w:World} {v0 v0_0 qd v0_1 v1:Value} :
  Spec Tryz.prog 72 [v0,v1,.int .i64 a2].toArray w [(false,.val (Rep.slice (Rep.int .u8)) v1 a1)] [(false,.box 169 (eventlog_Log.repW v0_0 v0_1) v0 a0),(false,.lnk qd v0_0 a0.d),(false,.slice 200 eventlog_record.rep v0_1 a0.records)] (λ v Γr Ωr Ωo=>∃ u0:Value,v=.tuple #[u0,.bool y.2]∧Γr=[(true,.val eventlog_head.rep u0 y.1)]∧Ωr=[]∧Ωo=[(false,.box 169 (eventlog_Log.repW v0_0 v0_1) v0 a0),(false,.lnk qd v0_0 a0.d),(false,(.slice 200 eventlog_record.rep v0_1 a0.records))]):=by
 refine Spec.of (L:=[(0,v0),(1,v1),(2,.int .i64 a2)]) Tryz.func72 rfl ⟨rfl,rfl,rfl,trivial⟩ rfl (λ e h=>?_)
 unfold eventlog_Log_header at hF
 refine sr (op (OpS.alloc h ti174 eventlog_head.zr rfl rfl (λ u1 w1 h1=>?_)))
 refine ga rfl (nil (Run.seq ?_))
 obtain ⟨y1,e1,hF⟩:=bindP_use hF
 obtain ⟨x1,e2,hF⟩:=bindP_use hF
 obtain ⟨y2,e3,hF⟩:=bindP_use hF
 obtain ⟨x2,e4,hF⟩:=bindP_use hF
 obtain ⟨x3,e5,hF⟩:=bindP_use hF
 refine Run.drawV (Ωs:=[(true,.box 174 eventlog_head.rep u1 eventlog_head.z),(false,.box 169 (eventlog_Log.repW v0_0 v0_1) v0 a0),(false,.lnk qd v0_0 a0.d),(false,.slice 200 eventlog_record.rep v0_1 a0.records)]) [.k 10 v1,.k 11 (.int .i64 y1),.k 12 v1,.f 13 (λ u_=>[(false,.val (Rep.slice (Rep.int .u8)) u_ x1)]),.k 14 (.int .i64 y2),.k 15 v1,.f 16 (λ u_=>[(false,.ptr (Rep.int .u8) u_ x2)]),.k 17 (.int .u8 x2),.k 18 (.int .u16 (IntKind.u16.wrap x2)),.k 19 v1,.f 20 (λ u_=>[(false,.ptr (Rep.int .u8) u_ x3)]),.k 21 (.int .u8 x3),.k 22 (.int .u16 (IntKind.u16.wrap x3)),.k 23 (.int .u16 (bShl .u16 (IntKind.u16.wrap x3) 8)),.k 24 (.int .u16 (bOr .u16 (IntKind.u16.wrap x2) (bShl .u16 (IntKind.u16.wrap x3) 8))),.f 25 (λ u_=>[(true,.val eventlog_head.rep u_ (⟨y1,y2,(bOr .u16 (IntKind.u16.wrap x2) (bShl .u16 (IntKind.u16.wrap x3) 8))⟩:eventlog_head))]),⟨some 8,none,λ u_=>[],λ ds_ u_=>[(true,.box 174 eventlog_head.rep u_ eventlog_head.z)],[],[],none⟩] [[],[0],[],[2],[3],[],[5],[6],[7],[],[9],[10],[11],[12],[8,13],[1,4,14],[]] [] [0,1,2,3,4,5,6,7,8,9,10,11,12,13,14,15,16] Try_mixed rfl rfl rfl h1 (.cons ?_ (.cons ?_ (.cons ?_ (.cons ?_ (.cons ?_ (.cons ?_ (.cons ?_ (.cons ?_ (.cons ?_ (.cons ?_ (.cons ?_ (.cons ?_ (.cons ?_ (.cons ?_ (.cons ?_ (.cons ?_ (.cons ?_ .nil))))))))))))))))) (λ q1 w hq1 h=>?_)
 ·intro q1 w Γx Ωx h
  refine OpS.mv rfl rfl rfl ?_
  exact du h
 ·intro q1 w Γx Ωx h
  refine OpS.callP h Tryz.func145 rfl rfl rfl rfl (vs:=[v1]) rfl (eventlog_read4_ok e1) (.cons (f:=false) (V.at .z) .nil) ?_
  rintro _ w5 _ _ _ ⟨rfl,rfl,rfl,rfl⟩ h11
  have h12:=h11 rfl rfl
  simp only [ca,na] at h12
  exact ⟨undef,rfl,trivial,h12⟩
 ·intro q1 w Γx Ωx h
  refine OpS.mv rfl rfl rfl ?_
  exact du h
 ·intro q1 w Γx Ωx h
  refine OpS.sub h Tryz.underlying24 ty5 rfl rfl rfl rfl rfl (V.at .z) e2 (λ u h13=>?_)
  exact ⟨u,rfl,trivial,h13⟩
 ·intro q1 w Γx Ωx h
  refine OpS.callP h Tryz.func145 rfl rfl rfl rfl (vs:=[(q1 3)]) rfl (eventlog_read4_ok e3) (.cons (f:=false) (V.at .z) .nil) ?_
  rintro _ w6 _ _ _ ⟨rfl,rfl,rfl,rfl⟩ h14
  have h15:=h14 rfl rfl
  simp only [ca,na] at h15
  exact ⟨undef,rfl,trivial,h15⟩
 ·intro q1 w Γx Ωx h
  refine OpS.mv rfl rfl rfl ?_
  exact du h
 ·intro q1 w Γx Ωx h
  refine OpS.iptr h Tryz.underlying24 ty5 rfl rfl rfl rfl (V.at .z) e4 (λ u h16=>?_)
  exact ⟨u,rfl,trivial,h16⟩
 ·intro q1 w Γx Ωx h
  refine OpS.loadi h ty5 rfl rfl rfl .z ?_
  exact du h
 ·intro q1 w Γx Ωx h
  refine OpS.conv Tryz.underlying5 Tryz.underlying49 rfl rfl rfl ?_
  exact du h
 ·intro q1 w Γx Ωx h
  refine OpS.mv rfl rfl rfl ?_
  exact du h
 ·intro q1 w Γx Ωx h
  refine OpS.iptr h Tryz.underlying24 ty5 rfl rfl rfl rfl (V.at .z) e5 (λ u h17=>?_)
  exact ⟨u,rfl,trivial,h17⟩
 ·intro q1 w Γx Ωx h
  refine OpS.loadi h ty5 rfl rfl rfl .z ?_
  exact du h
 ·intro q1 w Γx Ωx h
  refine OpS.conv Tryz.underlying5 Tryz.underlying49 rfl rfl rfl ?_
  exact du h
 ·intro q1 w Γx Ωx h
  refine OpS.shl rfl rfl rfl rfl (by decide) ?_
  exact du h
 ·intro q1 w Γx Ωx h
  refine OpS.bin rfl rfl rfl rfl rfl ?_
  exact du h
 ·intro q1 w Γx Ωx h
  refine OpS.build (f:=true) (x':=(⟨y1,y2,(bOr .u16 (IntKind.u16.wrap x2) (bShl .u16 (IntKind.u16.wrap x3) 8))⟩:eventlog_head)) h pl174 ti174 eventlog_head.zr rfl rfl rfl (.cons rfl eventlog_head.f0 rfl V.int (.cons rfl eventlog_head.f1 rfl V.int (.cons rfl eventlog_head.f2 rfl V.int .nil))) (λ u h18=>?_)
  exact ⟨u,rfl,trivial,h18⟩
 ·intro q1 w Γx Ωx h
  refine OpS.alloc h ti174 eventlog_head.zr rfl rfl (λ u w7 h19=>?_)
  exact ⟨u,rfl,trivial,h19⟩
 have h20:=h
 refine op (OpS.storeB (f':=true) h20 .z PA.z Put.id ty174 rfl rfl rfl (V.at (.s (.s (.s .z)))) (.inl rfl) (λ w8 h21=>?_))
 refine nil (Run.seq ?_)
 obtain ⟨x4,e6,hF⟩:=bindP_use hF
 obtain ⟨x5,e7,hF⟩:=letP_use hF
 refine iteP_use hF (λ e8 hF=>?_) (λ e8 hF=>?_)
 ·cases hF
 have hG:=hF
 subst e8
 have hF:=hG
 refine Run.drawV (Ωs:=[(true,.box 174 eventlog_head.rep (q1 16) (⟨y1,y2,(bOr .u16 (IntKind.u16.wrap x2) (bShl .u16 (IntKind.u16.wrap x3) 8))⟩:eventlog_head)),(true,.box 174 eventlog_head.rep u1 eventlog_head.z),(false,.box 169 (eventlog_Log.repW v0_0 v0_1) v0 a0),(false,.lnk qd v0_0 a0.d),(false,.slice 200 eventlog_record.rep v0_1 a0.records)]) [.k 26 v1,.f 27 (λ u_=>[(false,.ptr (Rep.int .u8) u_ x4)]),.k 28 (.int .u8 x4),.k 29 (.bool (x4==0)),.k 30 (.bool false),.k 31 undef,.k 32 undef,.k 33 undef,.k 34 (.bool false),.k 35 (.bool false),.k 36 undef,.k 37 undef,.k 38 undef,.k 39 (.bool false),.k 40 (.bool false),.k 41 undef,.k 42 undef,.k 43 undef,.k 44 undef,.k 45 undef,.k 46 undef,.k 47 undef,.k 48 undef,.k 49 undef] [[],[0],[1],[2],[3],[4],[4],[4],[4,7],[8],[9],[9],[9],[9,12],[13],[14],[14],[14],[14],[14],[14],[14],[14],[14]] [] [0,1,2,3,4,5,6,7,8,9,10,11,12,13,14,15,16,17,18,19,20,21,22,23] Try_mixed rfl rfl rfl h21 (.cons ?_ (.cons ?_ (.cons ?_ (.cons ?_ (.cons ?_ (.cons (dp λ _=>rfl) (.cons (dp λ _=>rfl) (.cons (dp λ _=>rfl) (.cons ?_ (.cons ?_ (.cons (dp λ _=>rfl) (.cons (dp λ _=>rfl) (.cons (dp λ _=>rfl) (.cons ?_ (.cons ?_ (.cons (dp λ _=>rfl) (.cons (dp λ _=>rfl) (.cons (dp λ _=>rfl) (.cons (dp λ _=>rfl) (.cons (dp λ _=>rfl) (.cons (dp λ _=>rfl) (.cons (dp λ _=>rfl) (.cons (dp λ _=>rfl) (.cons (dp λ _=>rfl) .nil)))))))))))))))))))))))) (λ q2 w hq2 h=>?_)
 ·intro q2 w Γx Ωx h
  refine OpS.mv rfl rfl rfl ?_
  exact du h
 ·intro q2 w Γx Ωx h
  refine OpS.iptr h Tryz.underlying24 ty5 rfl rfl rfl rfl (V.at (.s (.s (.s (.s .z))))) e6 (λ u h23=>?_)
  exact ⟨u,rfl,trivial,h23⟩
 ·intro q2 w Γx Ωx h
  refine OpS.loadi h ty5 rfl rfl rfl .z ?_
  exact du h
 ·intro q2 w Γx Ωx h
  refine OpS.bin rfl rfl rfl rfl rfl ?_
  exact du h
 ·intro q2 w Γx Ωx h
  refine OpS.mv rfl rfl rfl ?_
  exact ⟨undef,(congrArg (λ z_=>some (Value.bool z_)) e7),trivial,h⟩
 ·intro q2 w Γx Ωx h
  refine OpS.pick rfl rfl rfl rfl ?_
  exact du h
 ·intro q2 w Γx Ωx h
  refine OpS.mv rfl rfl rfl ?_
  exact du h
 ·intro q2 w Γx Ωx h
  refine OpS.pick rfl rfl rfl rfl ?_
  exact du h
 ·intro q2 w Γx Ωx h
  refine OpS.mv rfl rfl rfl ?_
  exact du h
 have h24:=h
 refine gp rfl (gk rfl (ga rfl (nil (Run.slim [(9,.bool false),(8,(q1 16)),(6,u1),(0,v0)] ⟨rfl,rfl,rfl,rfl,trivial⟩ ?_))))
 refine Run.seq ?_
 refine Run.drawV (Ωs:=[(true,.box 174 eventlog_head.rep (q1 16) (⟨y1,y2,(bOr .u16 (IntKind.u16.wrap x2) (bShl .u16 (IntKind.u16.wrap x3) 8))⟩:eventlog_head)),(true,.box 174 eventlog_head.rep u1 eventlog_head.z),(false,.box 169 (eventlog_Log.repW v0_0 v0_1) v0 a0),(false,.lnk qd v0_0 a0.d),(false,.slice 200 eventlog_record.rep v0_1 a0.records)]) [.k 52 (.bool false),.k 53 (.bool false),.k 54 undef,.k 55 undef,.k 56 undef,.k 57 (.bool false),.k 58 (.bool false),.k 59 undef,.k 60 undef,.k 61 undef,.k 62 undef,.k 63 undef,.k 64 (.bool false),.k 65 (.bool false),.k 66 undef,.k 67 undef,.k 68 undef,.k 69 undef,.k 70 undef,.k 71 undef,.k 72 undef,.k 73 undef,.k 74 undef,.k 75 undef] [[],[0],[1],[1],[1],[1,4],[5],[6],[6],[6],[6],[6],[6,11],[12],[13],[13],[13],[13],[13],[13],[13],[13],[13],[13]] [] [0,1,2,3,4,5,6,7,8,9,10,11,12,13,14,15,16,17,18,19,20,21,22,23] Try_mixed rfl rfl rfl h24 (.cons ?_ (.cons ?_ (.cons (dp λ _=>rfl) (.cons (dp λ _=>rfl) (.cons (dp λ _=>rfl) (.cons ?_ (.cons ?_ (.cons (dp λ _=>rfl) (.cons (dp λ _=>rfl) (.cons (dp λ _=>rfl) (.cons (dp λ _=>rfl) (.cons (dp λ _=>rfl) (.cons ?_ (.cons ?_ (.cons (dp λ _=>rfl) (.cons (dp λ _=>rfl) (.cons (dp λ _=>rfl) (.cons (dp λ _=>rfl) (.cons (dp λ _=>rfl) (.cons (dp λ _=>rfl) (.cons (dp λ _=>rfl) (.cons (dp λ _=>rfl) (.cons (dp λ _=>rfl) (.cons (dp λ _=>rfl) .nil)))))))))))))))))))))))) (λ q3 w hq3 h=>?_)
 ·intro q3 w Γx Ωx h
  refine OpS.mv rfl rfl rfl ?_
  exact du h
 ·intro q3 w Γx Ωx h
  refine OpS.mv rfl rfl rfl ?_
  exact du h
 ·intro q3 w Γx Ωx h
  refine OpS.pick rfl rfl rfl rfl ?_
  exact du h
 ·intro q3 w Γx Ωx h
  refine OpS.mv rfl rfl rfl ?_
  exact du h
 ·intro q3 w Γx Ωx h
  refine OpS.pick rfl rfl rfl rfl ?_
  exact du h
 ·intro q3 w Γx Ωx h
  refine OpS.mv rfl rfl rfl ?_
  exact du h
 have h25:=h
 refine gp rfl (gk rfl (ga rfl (nil (Run.seq ?_))))
 refine Run.drawV (Ωs:=[(false,.box 169 (eventlog_Log.repW v0_0 v0_1) v0 a0),(false,.lnk qd v0_0 a0.d),(false,.slice 200 eventlog_record.rep v0_1 a0.records)]) [.fr 78 (λ u_=>[(true,.val eventlog_head.rep u_ (⟨y1,y2,(bOr .u16 (IntKind.u16.wrap x2) (bShl .u16 (IntKind.u16.wrap x3) 8))⟩:eventlog_head))]) [0],.k 79 (.bool false),.k 80 (.bool false),.k 81 undef,.k 82 undef,.k 83 undef,.k 84 (.bool false),.k 85 (.bool false),.k 86 undef,.k 87 undef,.k 88 undef,.k 89 (.bool false),⟨none,some undef,λ _=>[],λ ds_ u_=>[(true,.box 174 eventlog_head.rep u1 (⟨y1,y2,(bOr .u16 (IntKind.u16.wrap x2) (bShl .u16 (IntKind.u16.wrap x3) 8))⟩:eventlog_head))],[1],[],none⟩] [[],[],[1],[2],[2],[2],[2,5],[6],[7],[7],[7],[7,10],[0]] [[(true,.box 174 eventlog_head.rep (q1 16) (⟨y1,y2,(bOr .u16 (IntKind.u16.wrap x2) (bShl .u16 (IntKind.u16.wrap x3) 8))⟩:eventlog_head))],[(true,.box 174 eventlog_head.rep u1 eventlog_head.z)]] [0,2,3,4,5,6,7,8,9,10,11,12,13,14] Try_mixed rfl rfl rfl h25 (.cons ?_ (.cons ?_ (.cons ?_ (.cons (dp λ _=>rfl) (.cons (dp λ _=>rfl) (.cons (dp λ _=>rfl) (.cons ?_ (.cons ?_ (.cons (dp λ _=>rfl) (.cons (dp λ _=>rfl) (.cons (dp λ _=>rfl) (.cons ?_ (.cons ?_ .nil))))))))))))) (λ q4 w hq4 h=>?_)
 ·intro q4 w Γx Ωx h
  refine OpS.loadB h .z PA.z Get.id ty174 rfl rfl rfl (λ u h28=>?_)
  exact ⟨u,rfl,trivial,h28⟩
 ·intro q4 w Γx Ωx h
  refine OpS.mv rfl rfl rfl ?_
  exact du h
 ·intro q4 w Γx Ωx h
  refine OpS.mv rfl rfl rfl ?_
  exact du h
 ·intro q4 w Γx Ωx h
  refine OpS.pick rfl rfl rfl rfl ?_
  exact du h
 ·intro q4 w Γx Ωx h
  refine OpS.mv rfl rfl rfl ?_
  exact du h
 ·intro q4 w Γx Ωx h
  refine OpS.pick rfl rfl rfl rfl ?_
  exact du h
 ·intro q4 w Γx Ωx h
  refine OpS.storeB (f':=true) h .z PA.z Put.id ty174 rfl rfl rfl (V.at .z) (.inl rfl) (λ w10 h29=>?_)
  exact ⟨undef,trivial,trivial,h29⟩
 have h30:=h
 refine ga rfl (nil (Run.slim [(7,.bool false),(6,u1)] ⟨rfl,rfl,trivial⟩ ?_))
 obtain ⟨u2,hu1,h31⟩:=res_box h30 (.s .z) ty174
 refine Run.retP rfl (.cell rfl hu1 (.tmp rfl .nil)) ?_
 cases hF
 exact Post.mk' ⟨u2,rfl,rfl,rfl,rfl⟩ (h31.picks (.cons (.s (.s .z)) (.cons (.s (.s .z)) (.cons (.s (.s .z)) .nil)))) (.val (V.at .z) .nil)
theorem eventlog_blank_1_ok {fuel:Nat} {a0:Int} {y:Bool} (hF:eventlog_blank_1 fuel a0=some y) {w:World} :
  Spec Tryz.prog 204 [.int .u8 a0].toArray w [] [] (λ v Γr Ωr Ωo=>v=.bool y∧Γr=[]∧Ωr=[]∧Ωo=[]):=by
 refine Spec.of (L:=[(0,.int .u8 a0)]) Tryz.func204 rfl ⟨rfl,trivial⟩ rfl (λ e h=>?_)
 unfold eventlog_blank_1 at hF
 refine sr (ga rfl (nil (sr (gm rfl (gb rfl (ga rfl ?_))))))
 obtain ⟨x1,e1,hF⟩:=letP_use hF
 refine RunL.nameb e1 ?_
 refine nil (Run.retP rfl (.tmp rfl .nil) ?_)
 cases hF
 exact Post.mk' ⟨rfl,rfl,rfl,rfl⟩ (h.picks .nil) .nil
theorem slices_IndexFunc_byte_byte_eventlog_blank_1_ok {fuel:Nat} {a0:List Int} {y:Int} (hF:slices_IndexFunc_byte_byte_eventlog_blank_1 fuel a0=some y) {w:World} {v0:Value} :
  Spec Tryz.prog 239 [v0,.func (.func 204) #[] #[]].toArray w [(false,.val (Rep.slice (Rep.int .u8)) v0 a0)] [] (λ v Γr Ωr Ωo=>v=.int .i64 y∧Γr=[]∧Ωr=[]∧Ωo=[]):=by
 refine Spec.of (L:=[(0,v0),(1,.func (.func 204) #[] #[])]) Tryz.func239 rfl ⟨rfl,rfl,trivial⟩ rfl (λ e h=>?_)
 unfold slices_IndexFunc_byte_byte_eventlog_blank_1 at hF
 refine sr (ga rfl (nil (Run.seq (sr (gm rfl (op (OpS.len h Tryz.underlying24 rfl rfl rfl (V.at .z) ?_)))))))
 refine gm rfl (nil (Run.block (Run.slim [(0,v0),(1,.func (.func 204) #[] #[]),(7,.int .i64 (a0.length:Int)),(8,.int .i64 0)] ⟨rfl,rfl,rfl,rfl,trivial⟩ ?_)))
 refine Run.loopP (σ:=Int) (λ s_ L_ w_=>L_=[(0,v0),(1,.func (.func 204) #[] #[]),(7,.int .i64 (a0.length:Int)),(8,.int .i64 s_)]∧St e w_ [(false,.val (Rep.slice (Rep.int .u8)) v0 a0)] []) hF ⟨rfl,(h.facts (.atm .z .nil)).picks .nil⟩ (λ k1 hk1 s1 _ w1 hI hF=>?_)
 obtain ⟨rfl,h1⟩:=hI
 refine sr (gb rfl (nil (Run.seq ?_)))
 refine Run.ite rfl hF (λ e1 hF=>?_) (λ e1 hF=>?_)
 ·refine Run.skip (Run.seq (Run.block (sr (gm rfl (ga rfl (nil (sr (gm rfl (gm rfl (gm rfl ?_))))))))))
  obtain ⟨x1,e2,hF⟩:=bindP_use hF
  refine op (OpS.iptr h1 Tryz.underlying24 ty5 rfl rfl rfl rfl (V.at .z) e2 (λ u1 h2=>?_))
  refine op (OpS.loadi h2 ty5 rfl rfl rfl .z ?_)
  obtain ⟨y1,e3,hF⟩:=bindP_use hF
  refine op (OpS.callPF (fl:=[]) (cl:=[]) h2 Tryz.func204 rfl rfl rfl rfl rfl (vs:=[.int .u8 x1]) rfl (eventlog_blank_1_ok e3) .nil ?_)
  rintro _ w2 _ _ _ ⟨rfl,rfl,rfl,rfl⟩ h3
  have h4:=h3 rfl rfl
  simp only [ca,na] at h4
  refine nil ?_
  refine Run.ite rfl hF (λ e4 hF=>?_) (λ e4 hF=>?_)
  ·cases hF
  refine Run.skip (Run.endBlock (Run.reg (gb rfl (gm rfl (nil (Run.slim [(0,v0),(1,.func (.func 204) #[] #[]),(7,.int .i64 (a0.length:Int)),(8,.int .i64 (IntKind.i64.wrap (s1+1)))] ⟨rfl,rfl,rfl,rfl,trivial⟩ ?_))))))
  exact hk1 ((IntKind.i64.wrap (s1+1))) _ _ ⟨rfl,(h4.facts (.atm (.s .z) .nil)).picks .nil⟩ hF
 refine Run.exit rfl ?_
 refine sr (ga rfl (nil (Run.retP rfl (.tmp rfl .nil) ?_)))
 cases hF
 exact Post.mk' ⟨rfl,rfl,rfl,rfl⟩ (h1.picks .nil) .nil
theorem slices_ContainsFunc_byte_byte_eventlog_blank_1_ok {fuel:Nat} {a0:List Int} {y:Bool} (hF:slices_ContainsFunc_byte_byte_eventlog_blank_1 fuel a0=some y) {w:World} {v0:Value} :
  Spec Tryz.prog 203 [v0,.func (.func 204) #[] #[]].toArray w [(false,.val (Rep.slice (Rep.int .u8)) v0 a0)] [] (λ v Γr Ωr Ωo=>v=.bool y∧Γr=[]∧Ωr=[]∧Ωo=[]):=by
 refine Spec.of (L:=[(0,v0),(1,.func (.func 204) #[] #[])]) Tryz.func203 rfl ⟨rfl,rfl,trivial⟩ rfl (λ e h=>?_)
 unfold slices_ContainsFunc_byte_byte_eventlog_blank_1 at hF
 refine sr (ga rfl (nil (sr (gm rfl (gm rfl ?_)))))
 obtain ⟨y1,e1,hF⟩:=bindP_use hF
 refine op (OpS.callP h Tryz.func239 rfl rfl rfl rfl (vs:=[v0,.func (.func 204) #[] #[]]) rfl (slices_IndexFunc_byte_byte_eventlog_blank_1_ok e1) (.cons (f:=false) (V.at .z) .nil) ?_)
 rintro _ w1 _ _ _ ⟨rfl,rfl,rfl,rfl⟩ h1
 have h2:=h1 rfl rfl
 simp only [ca,na] at h2
 refine gb rfl (ga rfl ?_)
 obtain ⟨x1,e2,hF⟩:=letP_use hF
 refine RunL.nameb e2 ?_
 refine nil (Run.retP rfl (.tmp rfl .nil) ?_)
 cases hF
 exact Post.mk' ⟨rfl,rfl,rfl,rfl⟩ (h2.picks .nil) .nil
theorem eventlog_blank_ok {fuel:Nat} {a0:List Int} {y:Bool} (hF:eventlog_blank fuel a0=some y) {w:World} {v0:Value} :
  Spec Tryz.prog 147 [v0].toArray w [(false,.val (Rep.slice (Rep.int .u8)) v0 a0)] [] (λ v Γr Ωr Ωo=>v=.bool y∧Γr=[]∧Ωr=[]∧Ωo=[]):=by
 refine Spec.of (L:=[(0,v0)]) Tryz.func147 rfl ⟨rfl,trivial⟩ rfl (λ e h=>?_)
 unfold eventlog_blank at hF
 refine sr (ga rfl (nil (sr (gm rfl ?_))))
 obtain ⟨y1,e1,hF⟩:=bindP_use hF
 refine op (OpS.callP h Tryz.func203 rfl rfl rfl rfl (vs:=[v0,.func (.func 204) #[] #[]]) rfl (slices_ContainsFunc_byte_byte_eventlog_blank_1_ok e1) (.cons (f:=false) (V.at .z) .nil) ?_)
 rintro _ w1 _ _ _ ⟨rfl,rfl,rfl,rfl⟩ h1
 have h2:=h1 rfl rfl
 simp only [ca,na] at h2
 refine op (OpS.not rfl rfl rfl ?_)
 refine ga rfl ?_
 obtain ⟨x1,e2,hF⟩:=letP_use hF
 refine RunL.nameb e2 ?_
 refine nil (Run.retP rfl (.tmp rfl .nil) ?_)
 cases hF
 exact Post.mk' ⟨rfl,rfl,rfl,rfl⟩ (h2.picks .nil) .nil
theorem event_Valid_ok {fuel:Nat} {a0:Event_} {y:Bool} (hF:event_Valid fuel a0=some y) {w:World} {v0:Value} :
  Spec Tryz.prog 84 [v0].toArray w [(false,.val Event_.rep v0 a0)] [] (λ v Γr Ωr Ωo=>v=.bool y∧Γr=[]∧Ωr=[]∧Ωo=[]):=by
 refine Spec.of (L:=[(0,v0)]) Tryz.func84 rfl ⟨rfl,trivial⟩ rfl (λ e h=>?_)
 unfold event_Valid at hF
 refine sr (op (OpS.boxF h rfl rfl rfl (V.at .z) (λ u1 w1 h1=>?_)))
 refine ga rfl (nil (sr (op (OpS.fbox (o3:=0) h1 .z PA.z fa55_0 rfl rfl rfl rfl ?_))))
 refine op (OpS.loadBi h1 .z PA.a (Get.fld Event_.f0) ty49 rfl rfl rfl ?_)
 refine gb rfl (gm rfl ?_)
 refine RunL.caseb hF (λ e1 hF=>?_) (λ e1 hF=>?_)
 ·refine op (OpS.fbox (o3:=1) h1 .z PA.z fa55_1 rfl rfl rfl rfl ?_)
  refine op (OpS.loadBi h1 .z PA.a (Get.fld Event_.f1) ty52 rfl rfl rfl ?_)
  refine gb rfl (gk rfl (gm rfl ?_))
  refine RunL.caseb hF (λ e2 hF=>?_) (λ e2 hF=>?_)
  ·refine op (OpS.fbox (o3:=5) h1 .z PA.z fa55_5 rfl rfl rfl rfl ?_)
   refine op (OpS.loadBi h1 .z PA.a (Get.fld Event_.f5) ty5 rfl rfl rfl ?_)
   refine gb rfl (gk rfl (ga rfl ?_))
   obtain ⟨x1,e3,hF⟩:=letP_use hF
   refine RunL.nameb e3 ?_
   refine nil (Run.retP rfl (.tmp rfl .nil) ?_)
   cases hF
   exact Post.mk' ⟨rfl,rfl,rfl,rfl⟩ (h1.picks .nil) .nil
  cases hF
 cases hF
theorem eventlog_behind_ok {fuel:Nat} {a0:Int} {y:Int} (hF:eventlog_behind fuel a0=some y) {w:World} :
  Spec Tryz.prog 89 [.int .u16 a0].toArray w [] [] (λ v Γr Ωr Ωo=>v=.int .u16 y∧Γr=[]∧Ωr=[]∧Ωo=[]):=by
 refine Spec.of (L:=[(0,.int .u16 a0)]) Tryz.func89 rfl ⟨rfl,trivial⟩ rfl (λ e h=>?_)
 unfold eventlog_behind at hF
 refine sr (ga rfl (nil (Run.seq (sr (gm rfl (gb rfl (nil ?_)))))))
 refine Run.ite rfl hF (λ e1 hF=>?_) (λ e1 hF=>?_)
 ·cases hF
 refine Run.skip (sr (gm rfl (gb rfl (ga rfl ?_))))
 obtain ⟨x1,e2,hF⟩:=letP_use hF
 refine RunL.name e2 ?_
 refine nil (Run.retP rfl (.tmp rfl .nil) ?_)
 cases hF
 exact Post.mk' ⟨rfl,rfl,rfl,rfl⟩ (h.picks .nil) .nil
set_option maxHeartbeats 8000000 in set_option maxRecDepth 20000 in
theorem eventlog_Open_ok {fuel:Nat} {a0:flash_Device} {a1:Int} {a2:Int} {a3:Bool} {y:(Option eventlog_Log)×Int} (hF:eventlog_Open fuel a0 a1 a2 a3=some y) {w:World} {v0 v0_0 v0_1:Value} :
  Spec Tryz.prog 14 [v0,.int .i64 a1,.int .i64 a2,.bool a3].toArray w [] [(false,.box 166 (flash_Device.repW v0_0 v0_1) v0 a0),(false,.slice 5 (Rep.int .u8) v0_0 a0.bytes),(false,.slice 3 (Rep.int .i64) v0_1 a0.wear)] (λ v Γr Ωr Ωo=>∃ u0:Value,v=.tuple #[u0,.int .i64 y.2]∧Γr=[]∧Ωr=[(false,.opt (eventlog_Log.mem v0 u0) u0 y.1)]∧Ωo=[(false,.box 166 (flash_Device.repW v0_0 v0_1) v0 a0),(false,(.slice 5 (Rep.int .u8) v0_0 a0.bytes)),(false,(.slice 3 (Rep.int .i64) v0_1 a0.wear))]):=by
 refine Spec.of (L:=[(0,v0),(1,.int .i64 a1),(2,.int .i64 a2),(3,.bool a3)]) Tryz.func14 rfl ⟨rfl,rfl,rfl,rfl,trivial⟩ rfl (λ e h=>?_)
 unfold eventlog_Open at hF
 refine sr (ga rfl (ga rfl (nil (Run.seq (sr (gm rfl (gb rfl (gm rfl ?_))))))))
 refine RunL.caseb hF (λ e1 hF=>?_) (λ e1 hF=>?_)
 ·cases hF
 refine gm rfl (gb rfl (gk rfl (gm rfl ?_)))
 refine RunL.caseb hF (λ e2 hF=>?_) (λ e2 hF=>?_)
 ·cases hF
 refine gm rfl (gm rfl ?_)
 obtain ⟨y1,e3,hF⟩:=bindP_use hF
 have h1:=h.front (.cons .z (.cons .z (.cons .z .nil)))
 refine op (OpS.callO h1 Tryz.func69 rfl rfl rfl rfl (vs:=[v0]) rfl (flash_Device_Sectors_ok e3) rfl .nil ?_)
 rintro _ w1 _ _ _ ⟨rfl,rfl,rfl,rfl⟩ h2
 have h3:=h2
 simp only [ca,na] at h3
 refine gb rfl (gk rfl (gm rfl ?_))
 refine RunL.caseb hF (λ e4 hF=>?_) (λ e4 hF=>?_)
 ·cases hF
 refine gm rfl (gm rfl ?_)
 obtain ⟨y2,e5,hF⟩:=bindP_use hF
 have h4:=h3.front (.cons .z (.cons .z (.cons .z .nil)))
 refine op (OpS.callO h4 Tryz.func69 rfl rfl rfl rfl (vs:=[v0]) rfl (flash_Device_Sectors_ok e5) rfl .nil ?_)
 rintro _ w2 _ _ _ ⟨rfl,rfl,rfl,rfl⟩ h5
 have h6:=h5
 simp only [ca,na] at h6
 refine gm rfl (gb rfl (gb rfl (gk rfl (nil ?_))))
 refine Run.ite rfl hF (λ e6 hF=>?_) (λ e6 hF=>?_)
 ·cases hF
 refine Run.skip (sr (gm rfl (gm rfl (gm rfl (gm rfl ?_)))))
 have h7:=St.lnkMk h6 .z
 have h8:=St.nil 200 eventlog_record.rep h7
 refine op (OpS.buildC (f:=true) (r:=RqB1) (x:=eventlog_Log.z) (r':=(eventlog_Log.repW v0 (.slice none 0 0))) (x':=(⟨false,a1,a2,a3,0,0,0,1,[],false,0,false,false⟩:eventlog_Log)) h8 pl169 ti169 (Zr.iso (y:=eventlog_Log.z) _ (Zr.of (Zr.prod Zr.lnk0 (Zr.prod (Zr.int .i64 0) (Zr.prod (Zr.int .i64 0) (Zr.prod (Zr.bool false) (Zr.prod (Zr.int .i64 0) (Zr.prod (Zr.int .i64 0) (Zr.prod (Zr.int .i64 0) (Zr.prod (Zr.int .u16 0) (Zr.prod (Zr.raw rfl ([]:List eventlog_record)) (Zr.prod (Zr.bool false) (Zr.prod (Zr.int .u16 0) (Zr.prod (Zr.bool false) (Zr.prod (Zr.bool false) Zr.unit))))))))))))) (by rfl))) rfl rfl rfl (.cons (Rep.raw v0) RqB1 (eventlog_Log.repW v0 (.slice none 0 0)) eventlog_Log.z (⟨false,0,0,false,0,0,0,0,[],false,0,false,false⟩:eventlog_Log) (Chg.iso _ (Chg.here (Chg.id (by rfl)))) rfl rfl (V.raw (f:=true) (St.lnk_one h8 (.s .z)) false) (.cons (Rep.int .i64) (eventlog_Log.repW v0 (.slice none 0 0)) (eventlog_Log.repW v0 (.slice none 0 0)) (⟨false,0,0,false,0,0,0,0,[],false,0,false,false⟩:eventlog_Log) (⟨false,a1,0,false,0,0,0,0,[],false,0,false,false⟩:eventlog_Log) (Chg.iso _ (Chg.there (Chg.here (Chg.id (by rfl))))) rfl rfl V.int (.cons (Rep.int .i64) (eventlog_Log.repW v0 (.slice none 0 0)) (eventlog_Log.repW v0 (.slice none 0 0)) (⟨false,a1,0,false,0,0,0,0,[],false,0,false,false⟩:eventlog_Log) (⟨false,a1,a2,false,0,0,0,0,[],false,0,false,false⟩:eventlog_Log) (Chg.iso _ (Chg.there (Chg.there (Chg.here (Chg.id (by rfl)))))) rfl rfl V.int (.cons Rep.bool (eventlog_Log.repW v0 (.slice none 0 0)) (eventlog_Log.repW v0 (.slice none 0 0)) (⟨false,a1,a2,false,0,0,0,0,[],false,0,false,false⟩:eventlog_Log) (⟨false,a1,a2,a3,0,0,0,0,[],false,0,false,false⟩:eventlog_Log) (Chg.iso _ (Chg.there (Chg.there (Chg.there (Chg.here (Chg.id (by rfl))))))) rfl rfl V.bool (.cons (Rep.int .u16) (eventlog_Log.repW v0 (.slice none 0 0)) (eventlog_Log.repW v0 (.slice none 0 0)) (⟨false,a1,a2,a3,0,0,0,0,[],false,0,false,false⟩:eventlog_Log) (⟨false,a1,a2,a3,0,0,0,1,[],false,0,false,false⟩:eventlog_Log) (Chg.iso _ (Chg.there (Chg.there (Chg.there (Chg.there (Chg.there (Chg.there (Chg.there (Chg.here (Chg.id (by rfl))))))))))) rfl rfl V.int .nil))))) (λ u1 h9=>?_))
 refine op (OpS.box (f':=true) h9 rfl rfl rfl (V.at .z) (λ u2 w3 h10=>?_))
 refine ga rfl (nil (sr (gm rfl ?_)))
 obtain ⟨x1,e7,hF⟩:=bindP_use hF
 refine op (OpS.make h10 Tryz.underlying170 ti24 rfl rfl (Zr.slice (Rep.int .u8)) rfl rfl rfl rfl e7 (by simp) (mk_fits e7) rfl (λ u3 w4 h11=>?_))
 refine ga rfl (nil (Run.slim [(11,u3),(10,u2),(0,v0),(1,.int .i64 a1),(2,.int .i64 a2)] ⟨rfl,rfl,rfl,rfl,rfl,trivial⟩ ?_))
 refine sr (gm rfl ?_)
 obtain ⟨x2,e8,hF⟩:=bindP_use hF
 refine op (OpS.make h11 Tryz.underlying171 ti174 rfl rfl eventlog_head.zr rfl rfl rfl rfl e8 (by simp) (mk_fits e8) rfl (λ u4 w5 h12=>?_))
 refine ga rfl (nil (Run.seq (sr (gm rfl (gm rfl (nil (Run.block ?_)))))))
 have h13:=St.boxJ (r':=(eventlog_Log.repW v0 (.slice none 0 0))) (x':=(⟨true,a1,a2,a3,0,0,0,1,[],false,0,false,false⟩:eventlog_Log)) (h12.pick (.s (.s .z))) (λ _ _ hs_=>(Jn.iso _ (Jn.prod Jn.same (Jn.prod Jn.refl (Jn.prod Jn.refl (Jn.prod Jn.refl (Jn.prod Jn.refl (Jn.prod Jn.refl (Jn.prod Jn.refl (Jn.prod Jn.refl (Jn.prod Jn.same Jn.refl)))))))))))
 have h14:=(h13.pick .z).weak
 have h15:=(h14.pick (.s (.s (.s .z)))).weak
 have h16:=(h15.pick (.s (.s (.s (.s .z))))).weak
 refine Run.slim [(0,v0),(1,.int .i64 a1),(2,.int .i64 a2),(10,u2),(11,u3),(12,u4),(50,.int .i64 a2),(51,.int .i64 0)] ⟨rfl,rfl,rfl,rfl,rfl,rfl,rfl,rfl,trivial⟩ ?_
 refine Run.loopP (σ:=Int) (λ s_ L_ w_=>L_=[(0,v0),(1,.int .i64 a1),(2,.int .i64 a2),(10,u2),(11,u3),(12,u4),(50,.int .i64 a2),(51,.int .i64 s_)]∧St e w_ [] [(false,.box 166 (flash_Device.repW v0_0 v0_1) v0 a0),(false,.box 169 (eventlog_Log.repW v0 (.slice none 0 0)) u2 (⟨true,a1,a2,a3,0,0,0,1,[],false,0,false,false⟩:eventlog_Log)),(true,.slice 24 (Rep.slice (Rep.int .u8)) u3 x1),(true,.slice 174 eventlog_head.rep u4 x2),(false,.slice 5 (Rep.int .u8) v0_0 a0.bytes),(false,.slice 3 (Rep.int .i64) v0_1 a0.wear),(false,.slice 200 eventlog_record.rep (.slice none 0 0) ([])),(false,.lnk v0 v0 true)]) hF ⟨rfl,(h16.facts .nil).picks (.cons (.s (.s (.s (.s (.s .z))))) (.cons (.s (.s .z)) (.cons (.s (.s (.s .z))) (.cons (.s (.s .z)) (.cons (.s (.s .z)) (.cons (.s (.s .z)) (.cons (.s .z) (.cons .z .nil))))))))⟩ (λ k1 hk1 s1 _ w6 hI hF=>?_)
 obtain ⟨rfl,h17⟩:=hI
 refine sr (gb rfl (nil (Run.seq ?_)))
 refine Run.ite rfl hF (λ e9 hF=>?_) (λ e9 hF=>?_)
 ·refine Run.skip (Run.seq (Run.block (sr (gm rfl (ga rfl (nil (sr (gm rfl (gm rfl (gm rfl (gb rfl (gm rfl ?_))))))))))))
  obtain ⟨y3,e10,hF⟩:=bindP_use hF
  have h18:=h17.front (.cons .z (.cons (.s (.s (.s .z))) (.cons (.s (.s (.s .z))) .nil)))
  refine op (OpS.callO h18 Tryz.func71 rfl rfl rfl rfl (vs:=[v0]) rfl (flash_Device_Size_ok e10) rfl .nil ?_)
  rintro _ w7 _ _ _ ⟨rfl,rfl,rfl,rfl⟩ h19
  have h20:=h19
  simp only [ca,na] at h20
  refine gb rfl (gm rfl ?_)
  obtain ⟨y4,e11,hF⟩:=bindP_use hF
  have h21:=h20.front (.cons .z (.cons .z (.cons .z .nil)))
  refine op (OpS.callO h21 Tryz.func71 rfl rfl rfl rfl (vs:=[v0]) rfl (flash_Device_Size_ok e11) rfl .nil ?_)
  rintro _ w8 _ _ _ ⟨rfl,rfl,rfl,rfl⟩ h22
  have h23:=h22
  simp only [ca,na] at h23
  obtain ⟨y5,e12,hF⟩:=bindP_use hF
  have h24:=h23.front (.cons .z (.cons .z (.cons .z .nil)))
  refine op (OpS.callO h24 Tryz.func70 rfl rfl rfl rfl (vs:=[v0,.int .i64 (IntKind.i64.wrap ((IntKind.i64.wrap (a1+s1))*y3)),.int .i64 y4]) rfl (flash_Device_Read_ok e12) rfl .nil ?_)
  rintro _ w9 _ _ _ ⟨u5,rfl,rfl,rfl,rfl⟩ h25
  have h26:=h25
  simp only [ca,na] at h26
  refine gm rfl (op (OpS.ext rfl rfl rfl rfl ?_))
  refine op (OpS.ext rfl rfl rfl rfl ?_)
  refine ga rfl ?_
  have h27:=(h26.pick .z).freeze
  refine ga rfl (nil (Run.seq (sr (gm rfl (gb rfl (nil ?_))))))
  refine Run.ite rfl hF (λ e13 hF=>?_) (λ e13 hF=>?_)
  ·cases hF
  refine Run.skip (sr (gm rfl (gm rfl (gm rfl ?_))))
  obtain ⟨y6,e14,hF⟩:=bindP_use hF
  have h28:=h27.front (.cons (.s (.s (.s .z))) (.cons (.s (.s (.s (.s (.s (.s .z)))))) (.cons (.s (.s (.s (.s (.s .z))))) .nil)))
  refine op (OpS.callO h28 Tryz.func72 rfl rfl rfl rfl (vs:=[u2,u5,.int .i64 s1]) rfl (eventlog_Log_header_ok e14) rfl (.cons (f:=true) (V.at .z) .nil) ?_)
  rintro _ w10 _ _ _ ⟨u6,rfl,rfl,rfl,rfl⟩ h29
  have h30:=h29
  simp only [ca,na] at h30
  refine gm rfl (op (OpS.ext rfl rfl rfl rfl ?_))
  refine op (OpS.ext rfl rfl rfl rfl ?_)
  refine op (OpS.alloc h30 ti174 eventlog_head.zr rfl rfl (λ u7 w11 h31=>?_))
  refine op (OpS.storeB (f':=true) h31 .z PA.z Put.id ty174 rfl rfl rfl (V.at .z) (.inl rfl) (λ w12 h32=>?_))
  refine ga rfl (nil (sr (gm rfl (nil ?_))))
  refine Run.ite rfl hF (λ e15 hF=>?_) (λ e15 hF=>?_)
  ·cases hF
  refine Run.skip (Run.endBlock (Run.reg (gb rfl (gm rfl (nil (Run.slim [(51,.int .i64 (IntKind.i64.wrap (s1+1))),(0,v0),(1,.int .i64 a1),(2,.int .i64 a2),(10,u2),(11,u3),(12,u4),(50,.int .i64 a2)] ⟨rfl,rfl,rfl,rfl,rfl,rfl,rfl,rfl,trivial⟩ ?_))))))
  refine Run.slim [(0,v0),(1,.int .i64 a1),(2,.int .i64 a2),(10,u2),(11,u3),(12,u4),(50,.int .i64 a2),(51,.int .i64 (IntKind.i64.wrap (s1+1)))] ⟨rfl,rfl,rfl,rfl,rfl,rfl,rfl,rfl,trivial⟩ ?_
  exact hk1 ((IntKind.i64.wrap (s1+1))) _ _ ⟨rfl,(h32.facts .nil).picks (.cons (.s (.s (.s (.s .z)))) (.cons (.s .z) (.cons (.s (.s (.s (.s (.s .z))))) (.cons (.s (.s (.s (.s (.s .z))))) (.cons (.s (.s (.s .z))) (.cons (.s (.s (.s .z))) (.cons (.s (.s .z)) (.cons (.s .z) .nil))))))))⟩ hF
 refine Run.exit rfl ?_
 refine Run.seq (sr (gm rfl (op (OpS.nchk h17 (.s .z) rfl rfl rfl ?_))))
 refine op (OpS.fbox (o3:=5) h17 (.s .z) PA.z fa169_5 rfl rfl rfl rfl ?_)
 refine op (OpS.loadBi h17 (.s .z) PA.a (GetS.ok (GetS.iso _ (GetS.there (GetS.there (GetS.there (GetS.there (GetS.there (GetS.here GetS.id)))))))) ty3 rfl rfl rfl ?_)
 refine ga rfl (nil (Run.block (Run.slim [(2,.int .i64 a2),(10,u2),(11,u3),(12,u4),(18,.int .i64 0)] ⟨rfl,rfl,rfl,rfl,rfl,trivial⟩ ?_)))
 refine Run.loopP (σ:=Unit) (λ s_ L_ w_=>L_=[(2,.int .i64 a2),(10,u2),(11,u3),(12,u4),(18,.int .i64 0)]∧St e w_ [] [(false,.box 169 (eventlog_Log.repW v0 (.slice none 0 0)) u2 (⟨true,a1,a2,a3,0,0,0,1,[],false,0,false,false⟩:eventlog_Log)),(false,.box 166 (flash_Device.repW v0_0 v0_1) v0 a0),(true,.slice 24 (Rep.slice (Rep.int .u8)) u3 x1),(true,.slice 174 eventlog_head.rep u4 x2),(false,.slice 200 eventlog_record.rep (.slice none 0 0) ([])),(false,.lnk v0 v0 true),(false,.slice 5 (Rep.int .u8) v0_0 a0.bytes),(false,.slice 3 (Rep.int .i64) v0_1 a0.wear)]) hF ⟨rfl,(h17.facts .nil).picks (.cons (.s .z) (.cons .z (.cons .z (.cons .z (.cons (.s (.s .z)) (.cons (.s (.s .z)) (.cons .z (.cons .z .nil))))))))⟩ (λ k2 hk2 s2 _ w13 hI hF=>?_)
 obtain ⟨rfl,h33⟩:=hI
 refine Run.seq (sr (gm rfl (gm rfl (op (OpS.nchk h33 .z rfl rfl rfl ?_)))))
 refine op (OpS.fbox (o3:=4) h33 .z PA.z fa169_4 rfl rfl rfl rfl ?_)
 refine op (OpS.loadBi h33 .z PA.a (GetS.ok (GetS.iso _ (GetS.there (GetS.there (GetS.there (GetS.there (GetS.here GetS.id))))))) ty3 rfl rfl rfl ?_)
 refine gb rfl (gm rfl ?_)
 refine RunL.caseb hF (λ e16 hF=>?_) (λ e16 hF=>?_)
 ·refine gm rfl (gb rfl (gk rfl (nil ?_)))
  refine Run.ite rfl hF (λ e17 hF=>?_) (λ e17 hF=>?_)
  ·cases hF
  refine Run.exit rfl ?_
  refine sr (gm rfl (ga rfl (ga rfl (nil ?_))))
  have h34:=h33.front (.cons (.s (.s (.s (.s (.s .z))))) (.cons (.s (.s (.s (.s .z)))) (.cons .z .nil)))
  have h35:=St.sep h34
  have h36:=St.sep (h35.pick (.s .z))
  have h37:=St.ex (H:=λ w1_=>.sep (.box 169 (eventlog_Log.repW v0 w1_) u2 (⟨true,a1,a2,a3,0,0,0,1,[],false,0,false,false⟩:eventlog_Log)) (.sep (.lnk v0 v0 true) (.slice 200 eventlog_record.rep w1_ ([])))) (.slice none 0 0) h36
  have h38:=St.ex (H:=λ w0_=>.ex λ w1_=>.sep (.box 169 (eventlog_Log.repW w0_ w1_) u2 (⟨true,a1,a2,a3,0,0,0,1,[],false,0,false,false⟩:eventlog_Log)) (.sep (.lnk v0 w0_ true) (.slice 200 eventlog_record.rep w1_ ([])))) v0 h37
  have h39:=St.some (H:=(eventlog_Log.mem v0 u2)) (q:=u2) (x:=(⟨true,a1,a2,a3,0,0,0,1,[],false,0,false,false⟩:eventlog_Log)) h38
  refine Run.retP rfl (.tmp rfl (.tmp rfl .nil)) ?_
  cases hF
  exact Post.mk' ⟨u2,rfl,rfl,rfl,rfl⟩ (h39.picks (.cons .z (.cons .z (.cons (.s (.s .z)) (.cons (.s (.s .z)) .nil))))) .nil
 cases hF
theorem monitor_Monitor_find_1_2_ok {fuel:Nat} {a0:Sensor_} {a1:Int} {y:Bool} (hF:monitor_Monitor_find_1_2 fuel a0 a1=some y) {w:World} {v0 v1:Value} :
  Spec Tryz.prog 158 [v0,v1].toArray w [(false,.val Sensor_.rep v0 a0),(false,.ptr (Rep.int .u8) v1 a1)] [] (λ v Γr Ωr Ωo=>v=.bool y∧Γr=[]∧Ωr=[]∧Ωo=[]):=by
 refine Spec.of (L:=[(0,v0),(1,v1)]) Tryz.func158 rfl ⟨rfl,rfl,trivial⟩ rfl (λ e h=>?_)
 unfold monitor_Monitor_find_1_2 at hF
 refine sr (op (OpS.boxF h rfl rfl rfl (V.at .z) (λ u1 w1 h1=>?_)))
 refine ga rfl (nil (sr (op (OpS.fbox (o3:=0) h1 .z PA.z fa74_0 rfl rfl rfl rfl ?_))))
 refine op (OpS.loadBi h1 .z PA.a (Get.fld Sensor_.f0) ty5 rfl rfl rfl ?_)
 refine op (OpS.loadi h1 ty5 rfl rfl rfl (.s .z) ?_)
 refine gb rfl (ga rfl ?_)
 obtain ⟨x1,e1,hF⟩:=letP_use hF
 refine RunL.nameb e1 ?_
 refine nil (Run.retP rfl (.tmp rfl .nil) ?_)
 cases hF
 exact Post.mk' ⟨rfl,rfl,rfl,rfl⟩ (h1.picks .nil) .nil
theorem slices_IndexFunc_api_Sensor_api_Sensor_monitor_Monitor_find_1_ok {fuel:Nat} {a0:List Sensor_} {a1_0:Int} {y:Int} (hF:slices_IndexFunc_api_Sensor_api_Sensor_monitor_Monitor_find_1 fuel a0 a1_0=some y) {w:World} {v0 v1_0:Value} :
  Spec Tryz.prog 91 [v0,.func (.func 158) #[] #[v1_0]].toArray w [(false,.val (Rep.slice Sensor_.rep) v0 a0),(false,.ptr (Rep.int .u8) v1_0 a1_0)] [] (λ v Γr Ωr Ωo=>v=.int .i64 y∧Γr=[]∧Ωr=[]∧Ωo=[]):=by
 refine Spec.of (L:=[(0,v0),(1,.func (.func 158) #[] #[v1_0])]) Tryz.func91 rfl ⟨rfl,rfl,trivial⟩ rfl (λ e h=>?_)
 unfold slices_IndexFunc_api_Sensor_api_Sensor_monitor_Monitor_find_1 at hF
 refine sr (ga rfl (nil (Run.seq (sr (gm rfl (op (OpS.len h Tryz.underlying27 rfl rfl rfl (V.at .z) ?_)))))))
 refine gm rfl (nil (Run.block (Run.slim [(0,v0),(1,.func (.func 158) #[] #[v1_0]),(7,.int .i64 (a0.length:Int)),(8,.int .i64 0)] ⟨rfl,rfl,rfl,rfl,trivial⟩ ?_)))
 refine Run.loopP (σ:=Int) (λ s_ L_ w_=>L_=[(0,v0),(1,.func (.func 158) #[] #[v1_0]),(7,.int .i64 (a0.length:Int)),(8,.int .i64 s_)]∧St e w_ [(false,.val (Rep.slice Sensor_.rep) v0 a0),(false,.ptr (Rep.int .u8) v1_0 a1_0)] []) hF ⟨rfl,(h.facts (.atm .z (.atm (.s .z) .nil))).picks .nil⟩ (λ k1 hk1 s1 _ w1 hI hF=>?_)
 obtain ⟨rfl,h1⟩:=hI
 refine sr (gb rfl (nil (Run.seq ?_)))
 refine Run.ite rfl hF (λ e1 hF=>?_) (λ e1 hF=>?_)
 ·refine Run.skip (Run.seq (Run.block (sr (gm rfl (ga rfl (nil (sr (gm rfl (gm rfl (gm rfl ?_))))))))))
  obtain ⟨x1,e2,hF⟩:=bindP_use hF
  refine op (OpS.iptr h1 Tryz.underlying27 ty74 rfl rfl rfl rfl (V.at .z) e2 (λ u1 h2=>?_))
  refine op (OpS.load h2 ty74 rfl rfl rfl .z (λ u2 h3=>?_))
  obtain ⟨y1,e3,hF⟩:=bindP_use hF
  refine op (OpS.callPF (fl:=[]) (cl:=[v1_0]) h3 Tryz.func158 rfl rfl rfl rfl rfl (vs:=[u2]) rfl (monitor_Monitor_find_1_2_ok e3) (.cons (f:=false) (V.at .z) (.ptr (.s (.s (.s .z))) .nil)) ?_)
  rintro _ w2 _ _ _ ⟨rfl,rfl,rfl,rfl⟩ h4
  have h5:=h4 rfl rfl
  simp only [ca,na] at h5
  refine nil ?_
  refine Run.ite rfl hF (λ e4 hF=>?_) (λ e4 hF=>?_)
  ·refine sr (gm rfl (ga rfl (nil (Run.retP rfl (.tmp rfl .nil) ?_))))
   cases hF
   exact Post.mk' ⟨rfl,rfl,rfl,rfl⟩ (h5.picks .nil) .nil
  refine Run.skip (Run.endBlock (Run.reg (gb rfl (gm rfl (nil (Run.slim [(0,v0),(1,.func (.func 158) #[] #[v1_0]),(7,.int .i64 (a0.length:Int)),(8,.int .i64 (IntKind.i64.wrap (s1+1)))] ⟨rfl,rfl,rfl,rfl,trivial⟩ ?_))))))
  exact hk1 ((IntKind.i64.wrap (s1+1))) _ _ ⟨rfl,(h5.facts (.atm (.s (.s .z)) (.atm (.s (.s (.s .z))) .nil))).picks .nil⟩ hF
 refine Run.exit rfl ?_
 refine sr (ga rfl (nil (Run.retP rfl (.tmp rfl .nil) ?_)))
 cases hF
 exact Post.mk' ⟨rfl,rfl,rfl,rfl⟩ (h1.picks .nil) .nil
theorem monitor_Monitor_find_ok {fuel:Nat} {a0:monitor_Monitor} {a1:Int} {y:Int} (hF:monitor_Monitor_find fuel a0 a1=some y) {w:World} {v0 v0_0 v0_1:Value} :
  Spec Tryz.prog 94 [v0,.int .u8 a1].toArray w [] [(false,.box 184 (monitor_Monitor.repW v0_0 v0_1) v0 a0),(false,.slice 188 Filter_.rep v0_0 a0.filters),(false,.slice 49 (Rep.int .u16) v0_1 a0.states)] (λ v Γr Ωr Ωo=>v=.int .i64 y∧Γr=[]∧Ωr=[]∧Ωo=[(false,.box 184 (monitor_Monitor.repW v0_0 v0_1) v0 a0),(false,(.slice 188 Filter_.rep v0_0 a0.filters)),(false,(.slice 49 (Rep.int .u16) v0_1 a0.states))]):=by
 refine Spec.of (L:=[(0,v0),(1,.int .u8 a1)]) Tryz.func94 rfl ⟨rfl,rfl,trivial⟩ rfl (λ e h=>?_)
 unfold monitor_Monitor_find at hF
 refine sr (op (OpS.box (f':=true) h rfl rfl rfl V.int (λ u1 w1 h1=>?_)))
 refine ga rfl (nil (sr (gm rfl (op (OpS.nchk h1 (.s .z) rfl rfl rfl ?_)))))
 refine op (OpS.fbox (o3:=0) h1 (.s .z) PA.z fa184_0 rfl rfl rfl rfl ?_)
 refine op (OpS.loadB (fr:=(Rep.slice Sensor_.rep)) h1 (.s .z) PA.a (GetS.ok (GetS.iso _ (GetS.here GetS.id))) (Ty.like ty27 (by rfl) (by rfl)) rfl rfl rfl (λ u2 h2=>?_))
 refine op (OpS.mkf (fl:=[]) (cl:=[u1]) rfl rfl rfl rfl ?_)
 have h3:=(h2.pick .z).freezeBox
 obtain ⟨y1,e1,hF⟩:=bindP_use hF
 refine op (OpS.callP h3 Tryz.func91 rfl rfl rfl rfl (vs:=[u2,.func (.func 158) #[] #[u1]]) rfl (slices_IndexFunc_api_Sensor_api_Sensor_monitor_Monitor_find_1_ok e1) (.cons (f:=false) (V.at (.s .z)) (.ptr .z .nil)) ?_)
 rintro _ w2 _ _ _ ⟨rfl,rfl,rfl,rfl⟩ h4
 have h5:=h4 rfl rfl
 simp only [ca,na] at h5
 refine ga rfl (nil (Run.retP rfl (.tmp rfl .nil) ?_))
 cases hF
 exact Post.mk' ⟨rfl,rfl,rfl,rfl⟩ (h5.picks (.cons .z (.cons .z (.cons .z .nil)))) .nil
set_option maxHeartbeats 8000000 in set_option maxRecDepth 20000 in
theorem monitor_Monitor_check_ok {fuel:Nat} {a0:monitor_Monitor} {a1:List Sample_} {y:Int} (hF:monitor_Monitor_check fuel a0 a1=some y) {w:World} {v0 v0_0 v0_1 v1:Value} :
  Spec Tryz.prog 77 [v0,v1].toArray w [(false,.val (Rep.slice Sample_.rep) v1 a1)] [(false,.box 184 (monitor_Monitor.repW v0_0 v0_1) v0 a0),(false,.slice 188 Filter_.rep v0_0 a0.filters),(false,.slice 49 (Rep.int .u16) v0_1 a0.states)] (λ v Γr Ωr Ωo=>v=.int .i64 y∧Γr=[]∧Ωr=[]∧Ωo=[(false,.box 184 (monitor_Monitor.repW v0_0 v0_1) v0 a0),(false,(.slice 188 Filter_.rep v0_0 a0.filters)),(false,(.slice 49 (Rep.int .u16) v0_1 a0.states))]):=by
 refine Spec.of (L:=[(0,v0),(1,v1)]) Tryz.func77 rfl ⟨rfl,rfl,trivial⟩ rfl (λ e h=>?_)
 unfold monitor_Monitor_check at hF
 refine sr (ga rfl (nil (Run.seq (sr (gm rfl (op (OpS.len h Tryz.underlying41 rfl rfl rfl (V.at .z) ?_)))))))
 refine gm rfl (nil (Run.block (Run.slim [(0,v0),(1,v1),(9,v1),(10,.int .i64 (a1.length:Int)),(11,.int .i64 0)] ⟨rfl,rfl,rfl,rfl,rfl,trivial⟩ ?_)))
 refine Run.loopP (σ:=Int) (λ s_ L_ w_=>L_=[(0,v0),(1,v1),(9,v1),(10,.int .i64 (a1.length:Int)),(11,.int .i64 s_)]∧St e w_ [(false,.val (Rep.slice Sample_.rep) v1 a1)] [(false,.box 184 (monitor_Monitor.repW v0_0 v0_1) v0 a0),(false,.slice 188 Filter_.rep v0_0 a0.filters),(false,.slice 49 (Rep.int .u16) v0_1 a0.states)]) hF ⟨rfl,(h.facts (.atm .z .nil)).picks (.cons .z (.cons .z (.cons .z .nil)))⟩ (λ k1 hk1 s1 _ w1 hI hF=>?_)
 obtain ⟨rfl,h1⟩:=hI
 refine sr (gb rfl (nil (Run.seq ?_)))
 refine Run.ite rfl hF (λ e1 hF=>?_) (λ e1 hF=>?_)
 ·refine Run.skip (Run.seq (Run.block (sr (gm rfl ?_))))
  obtain ⟨x1,e2,hF⟩:=bindP_use hF
  refine op (OpS.iptr h1 Tryz.underlying41 ty93 rfl rfl rfl rfl (V.at .z) e2 (λ u1 h2=>?_))
  refine op (OpS.load h2 ty93 rfl rfl rfl .z (λ u2 h3=>?_))
  refine op (OpS.alloc h3 ti93 Sample_.zr rfl rfl (λ u3 w2 h4=>?_))
  refine ga rfl ?_
  have h5:=(h4.pick .z).weak
  refine op (OpS.storeB (f':=false) h5 .z PA.z Put.id ty93 rfl rfl rfl (V.at .z) (.inr rfl) (λ w3 h6=>?_))
  refine nil (Run.seq (Run.seq ?_))
  refine Run.join (σ:=Bool) (λ s_ L_ w_=>L_=[(0,v0),(1,v1),(6,u3),(9,v1),(10,.int .i64 (a1.length:Int)),(11,.int .i64 s1),(43,.bool s_)]∧St e w_ [(false,.val (Rep.slice Sample_.rep) v1 a1)] [(false,.box 184 (monitor_Monitor.repW v0_0 v0_1) v0 a0),(false,.box 93 Sample_.rep u3 x1),(false,.slice 188 Filter_.rep v0_0 a0.filters),(false,.slice 49 (Rep.int .u16) v0_1 a0.states)]) hF (λ s2 _ w4 hI hF=>?_) (λ j1 hj1 hF=>?_)
  ·obtain ⟨rfl,h7⟩:=hI
   refine Run.ite rfl hF (λ e3 hF=>?_) (λ e3 hF=>?_)
   ·refine sr (ga rfl (nil (Run.retP rfl (.tmp rfl .nil) ?_)))
    cases hF
    exact Post.mk' ⟨rfl,rfl,rfl,rfl⟩ (h7.picks (.cons .z (.cons (.s .z) (.cons (.s .z) .nil)))) .nil
   refine Run.skip (sr (gm rfl (op (OpS.fbox (o3:=0) h7 (.s .z) PA.z fa93_0 rfl rfl rfl rfl ?_))))
   refine op (OpS.loadBi h7 (.s .z) PA.a (Get.fld Sample_.f0) ty5 rfl rfl rfl ?_)
   obtain ⟨y1,e4,hF⟩:=bindP_use hF
   have h8:=h7.front (.cons .z (.cons (.s .z) (.cons (.s .z) .nil)))
   refine op (OpS.callO h8 Tryz.func94 rfl rfl rfl rfl (vs:=[v0,.int .u8 x1.Number]) rfl (monitor_Monitor_find_ok e4) rfl .nil ?_)
   rintro _ w5 _ _ _ ⟨rfl,rfl,rfl,rfl⟩ h9
   have h10:=h9
   simp only [ca,na] at h10
   refine ga rfl (nil (Run.seq (sr (gm rfl (gb rfl (nil ?_))))))
   refine Run.ite rfl hF (λ e5 hF=>?_) (λ e5 hF=>?_)
   ·refine sr (ga rfl (nil (Run.retP rfl (.tmp rfl .nil) ?_)))
    cases hF
    exact Post.mk' ⟨rfl,rfl,rfl,rfl⟩ (h10.picks (.cons .z (.cons .z (.cons .z .nil)))) .nil
   refine Run.skip (sr (gm rfl (op (OpS.nchk h10 .z rfl rfl rfl ?_))))
   refine op (OpS.fbox (o3:=0) h10 .z PA.z fa184_0 rfl rfl rfl rfl ?_)
   refine op (OpS.loadB (fr:=(Rep.slice Sensor_.rep)) h10 .z PA.a (GetS.ok (GetS.iso _ (GetS.here GetS.id))) (Ty.like ty27 (by rfl) (by rfl)) rfl rfl rfl (λ u4 h11=>?_))
   refine gm rfl ?_
   obtain ⟨x2,e6,hF⟩:=bindP_use hF
   refine op (OpS.iptr h11 Tryz.underlying27 ty74 rfl rfl rfl rfl (V.at .z) e6 (λ u5 h12=>?_))
   refine op (OpS.load h12 ty74 rfl rfl rfl .z (λ u6 h13=>?_))
   refine op (OpS.alloc h13 ti74 Sensor_.zr rfl rfl (λ u7 w6 h14=>?_))
   have h15:=(h14.pick .z).weak
   refine op (OpS.storeB (f':=false) h15 .z PA.z Put.id ty74 rfl rfl rfl (V.at .z) (.inr rfl) (λ w7 h16=>?_))
   refine nil (Run.block (sr (op (OpS.fbox (o3:=6) h16 .z PA.z fa74_5 rfl rfl rfl rfl ?_))))
   refine op (OpS.loadBb h16 .z PA.a (Get.fld Sensor_.f5) ty4 rfl rfl rfl ?_)
   refine op (OpS.not rfl rfl rfl ?_)
   refine gm rfl ?_
   refine RunL.join (σ:=Bool) (λ s_ L_ w_=>L_=[(0,v0),(1,v1),(6,u3),(8,u7),(9,v1),(10,.int .i64 (a1.length:Int)),(11,.int .i64 s1),(57,.bool s_)]∧St e w_ [(false,.val (Rep.slice Sample_.rep) v1 a1)] [(false,.box 184 (monitor_Monitor.repW v0_0 v0_1) v0 a0),(false,.box 93 Sample_.rep u3 x1),(false,.box 74 Sensor_.rep u7 x2),(false,.slice 188 Filter_.rep v0_0 a0.filters),(false,.slice 49 (Rep.int .u16) v0_1 a0.states)]) hF (λ s3 _ w8 hI hF=>?_) (λ j2 hj2 hF=>?_)
   ·obtain ⟨rfl,h17⟩:=hI
    refine Run.ite rfl hF (λ e7 hF=>?_) (λ e7 hF=>?_)
    ·refine sr (ga rfl (nil (Run.retP rfl (.tmp rfl .nil) ?_)))
     cases hF
     exact Post.mk' ⟨rfl,rfl,rfl,rfl⟩ (h17.picks (.cons .z (.cons (.s (.s .z)) (.cons (.s (.s .z)) .nil)))) .nil
    refine sr (op (OpS.fbox (o3:=3) h17 (.s .z) PA.z fa93_3 rfl rfl rfl rfl ?_))
    refine op (OpS.loadBi h17 (.s .z) PA.a (Get.fld Sample_.f3) ty49 rfl rfl rfl ?_)
    refine op (OpS.fbox (o3:=23) h17 (.s (.s .z)) PA.z fa74_10 rfl rfl rfl rfl ?_)
    refine op (OpS.loadBi h17 (.s (.s .z)) PA.a (Get.fld Sensor_.f10) ty49 rfl rfl rfl ?_)
    refine gb rfl (gb rfl (ga rfl ?_))
    obtain ⟨x3,e8,hF⟩:=letP_use hF
    refine RunL.nameb e8 ?_
    refine nil ?_
    refine Run.ite rfl hF (λ e9 hF=>?_) (λ e9 hF=>?_)
    ·refine sr (ga rfl (nil (Run.retP rfl (.tmp rfl .nil) ?_)))
     cases hF
     exact Post.mk' ⟨rfl,rfl,rfl,rfl⟩ (h17.picks (.cons .z (.cons (.s (.s .z)) (.cons (.s (.s .z)) .nil)))) .nil
    refine Run.skip (Run.endBlock (Run.endBlock (Run.reg (gb rfl (gm rfl (nil (Run.slim [(0,v0),(1,v1),(9,v1),(10,.int .i64 (a1.length:Int)),(11,.int .i64 (IntKind.i64.wrap (s1+1)))] ⟨rfl,rfl,rfl,rfl,rfl,trivial⟩ ?_)))))))
    exact hk1 ((IntKind.i64.wrap (s1+1))) _ _ ⟨rfl,(h17.facts (.atm .z .nil)).picks (.cons .z (.cons (.s (.s .z)) (.cons (.s (.s .z)) .nil)))⟩ hF
   refine RunL.caseb hF (λ e10 hF=>?_) (λ e10 hF=>?_)
   ·refine op (OpS.fbox (o3:=3) h16 (.s (.s (.s (.s .z)))) PA.z fa93_3 rfl rfl rfl rfl ?_)
    refine op (OpS.loadBi h16 (.s (.s (.s (.s .z)))) PA.a (Get.fld Sample_.f3) ty49 rfl rfl rfl ?_)
    refine gb rfl (gk rfl (gm rfl ?_))
    refine RunL.caseb hF (λ e11 hF=>?_) (λ e11 hF=>?_)
    ·refine gp rfl (gp rfl (gp rfl (gp rfl (gp rfl (gp rfl (gp rfl (gk rfl (ga rfl (nil (Run.slim [(57,.bool true),(8,u7),(0,v0),(1,v1),(6,u3),(9,v1),(10,.int .i64 (a1.length:Int)),(11,.int .i64 s1)] ⟨rfl,rfl,rfl,rfl,rfl,rfl,rfl,rfl,trivial⟩ ?_))))))))))
     refine Run.slim [(0,v0),(1,v1),(6,u3),(8,u7),(9,v1),(10,.int .i64 (a1.length:Int)),(11,.int .i64 s1),(57,.bool true)] ⟨rfl,rfl,rfl,rfl,rfl,rfl,rfl,rfl,trivial⟩ ?_
     exact hj2 (true) _ _ ⟨rfl,(h16.facts (.atm (.s (.s (.s .z))) .nil)).picks (.cons (.s .z) (.cons (.s (.s (.s .z))) (.cons .z (.cons .z (.cons .z .nil)))))⟩ hF
    refine op (OpS.fbox (o3:=6) h16 .z PA.z fa74_5 rfl rfl rfl rfl ?_)
    refine op (OpS.loadBb h16 .z PA.a (Get.fld Sensor_.f5) ty4 rfl rfl rfl ?_)
    refine gm rfl ?_
    refine RunL.caseb hF (λ e12 hF=>?_) (λ e12 hF=>?_)
    ·refine op (OpS.fbox (o3:=2) h16 (.s (.s (.s (.s .z)))) PA.z fa93_2 rfl rfl rfl rfl ?_)
     refine op (OpS.loadBi h16 (.s (.s (.s (.s .z)))) PA.a (Get.fld Sample_.f2) ty5 rfl rfl rfl ?_)
     refine gb rfl (gk rfl (gk rfl (ga rfl ?_)))
     obtain ⟨x4,e13,hF⟩:=letP_use hF
     refine RunL.nameb e13 ?_
     refine nil (Run.slim [(57,.bool x4),(8,u7),(0,v0),(1,v1),(6,u3),(9,v1),(10,.int .i64 (a1.length:Int)),(11,.int .i64 s1)] ⟨rfl,rfl,rfl,rfl,rfl,rfl,rfl,rfl,trivial⟩ ?_)
     refine Run.slim [(0,v0),(1,v1),(6,u3),(8,u7),(9,v1),(10,.int .i64 (a1.length:Int)),(11,.int .i64 s1),(57,.bool x4)] ⟨rfl,rfl,rfl,rfl,rfl,rfl,rfl,rfl,trivial⟩ ?_
     exact hj2 (x4) _ _ ⟨rfl,(h16.facts (.atm (.s (.s (.s .z))) .nil)).picks (.cons (.s .z) (.cons (.s (.s (.s .z))) (.cons .z (.cons .z (.cons .z .nil)))))⟩ hF
    refine gp rfl (gp rfl (gp rfl (gk rfl (gk rfl (ga rfl (nil (Run.slim [(57,.bool false),(8,u7),(0,v0),(1,v1),(6,u3),(9,v1),(10,.int .i64 (a1.length:Int)),(11,.int .i64 s1)] ⟨rfl,rfl,rfl,rfl,rfl,rfl,rfl,rfl,trivial⟩ ?_)))))))
    refine Run.slim [(0,v0),(1,v1),(6,u3),(8,u7),(9,v1),(10,.int .i64 (a1.length:Int)),(11,.int .i64 s1),(57,.bool false)] ⟨rfl,rfl,rfl,rfl,rfl,rfl,rfl,rfl,trivial⟩ ?_
    exact hj2 (false) _ _ ⟨rfl,(h16.facts (.atm (.s (.s (.s .z))) .nil)).picks (.cons (.s .z) (.cons (.s (.s (.s .z))) (.cons .z (.cons .z (.cons .z .nil)))))⟩ hF
   refine gp rfl (gp rfl (gp rfl (gk rfl (gm rfl (op (OpS.fbox (o3:=6) h16 .z PA.z fa74_5 rfl rfl rfl rfl ?_))))))
   refine op (OpS.loadBb h16 .z PA.a (Get.fld Sensor_.f5) ty4 rfl rfl rfl ?_)
   refine gm rfl ?_
   refine RunL.caseb hF (λ e14 hF=>?_) (λ e14 hF=>?_)
   ·refine op (OpS.fbox (o3:=2) h16 (.s (.s (.s (.s .z)))) PA.z fa93_2 rfl rfl rfl rfl ?_)
    refine op (OpS.loadBi h16 (.s (.s (.s (.s .z)))) PA.a (Get.fld Sample_.f2) ty5 rfl rfl rfl ?_)
    refine gb rfl (gk rfl (gk rfl (ga rfl ?_)))
    obtain ⟨x5,e15,hF⟩:=letP_use hF
    refine RunL.nameb e15 ?_
    refine nil (Run.slim [(57,.bool x5),(8,u7),(0,v0),(1,v1),(6,u3),(9,v1),(10,.int .i64 (a1.length:Int)),(11,.int .i64 s1)] ⟨rfl,rfl,rfl,rfl,rfl,rfl,rfl,rfl,trivial⟩ ?_)
    refine Run.slim [(0,v0),(1,v1),(6,u3),(8,u7),(9,v1),(10,.int .i64 (a1.length:Int)),(11,.int .i64 s1),(57,.bool x5)] ⟨rfl,rfl,rfl,rfl,rfl,rfl,rfl,rfl,trivial⟩ ?_
    exact hj2 (x5) _ _ ⟨rfl,(h16.facts (.atm (.s (.s (.s .z))) .nil)).picks (.cons (.s .z) (.cons (.s (.s (.s .z))) (.cons .z (.cons .z (.cons .z .nil)))))⟩ hF
   refine gp rfl (gp rfl (gp rfl (gk rfl (gk rfl (ga rfl (nil (Run.slim [(57,.bool false),(8,u7),(0,v0),(1,v1),(6,u3),(9,v1),(10,.int .i64 (a1.length:Int)),(11,.int .i64 s1)] ⟨rfl,rfl,rfl,rfl,rfl,rfl,rfl,rfl,trivial⟩ ?_)))))))
   refine Run.slim [(0,v0),(1,v1),(6,u3),(8,u7),(9,v1),(10,.int .i64 (a1.length:Int)),(11,.int .i64 s1),(57,.bool false)] ⟨rfl,rfl,rfl,rfl,rfl,rfl,rfl,rfl,trivial⟩ ?_
   exact hj2 (false) _ _ ⟨rfl,(h16.facts (.atm (.s (.s (.s .z))) .nil)).picks (.cons (.s .z) (.cons (.s (.s (.s .z))) (.cons .z (.cons .z (.cons .z .nil)))))⟩ hF
  obtain ⟨x6,e16,hF⟩:=letP_use hF
  refine iteP_use hF (λ e17 hF=>?_) (λ e17 hF=>?_)
  ·have hG:=hF
   subst e17
   have hF:=hG
   obtain ⟨x7,e18,hF⟩:=bindP_use hF
   refine Run.drawV (Ωs:=[(false,.box 184 (monitor_Monitor.repW v0_0 v0_1) v0 a0),(false,.slice 188 Filter_.rep v0_0 a0.filters),(false,.slice 49 (Rep.int .u16) v0_1 a0.states)]) [.k 16 (.int .i64 s1),.k 17 (.bool (decide (s1>0))),.k 18 (.bool true),.kr 19 (padd u3 0) [0],.kr 20 (.int .u8 x1.Number) [0],.k 21 v1,.k 22 (.int .i64 s1),.k 23 (.int .i64 (IntKind.i64.wrap (s1-1))),.f 24 (λ u_=>[(false,.ptr Sample_.rep u_ x7)]),.f 25 (λ u_=>[(false,.ptr (Rep.int .u8) u_ x7.Number)]),.k 26 (.int .u8 x7.Number)] [[],[0],[1],[2],[3,2],[2],[2],[6,2],[5,7,2],[8,2],[9,2]] [[(false,.box 93 Sample_.rep u3 x1)]] [0,1,2,3,4,5,6,7,8,9,10,11] Try_mixed rfl rfl rfl h6 (.cons ?_ (.cons ?_ (.cons ?_ (.cons ?_ (.cons ?_ (.cons ?_ (.cons ?_ (.cons ?_ (.cons ?_ (.cons ?_ (.cons ?_ .nil))))))))))) (λ q1 w hq1 h=>?_)
   ·intro q1 w Γx Ωx h
    refine OpS.mv rfl rfl rfl ?_
    exact du h
   ·intro q1 w Γx Ωx h
    refine OpS.bin rfl rfl rfl rfl rfl ?_
    exact du h
   ·intro q1 w Γx Ωx h
    refine OpS.mv rfl rfl rfl ?_
    exact ⟨undef,(congrArg (λ z_=>some (Value.bool z_)) e16),trivial,h⟩
   ·intro q1 w Γx Ωx h
    refine OpS.fbox (o3:=0) h .z PA.z fa93_0 rfl rfl rfl rfl ?_
    exact du h
   ·intro q1 w Γx Ωx h
    refine OpS.loadBi h .z PA.a (Get.fld Sample_.f0) ty5 rfl rfl rfl ?_
    exact du h
   ·intro q1 w Γx Ωx h
    refine OpS.mv rfl rfl rfl ?_
    exact du h
   ·intro q1 w Γx Ωx h
    refine OpS.mv rfl rfl rfl ?_
    exact du h
   ·intro q1 w Γx Ωx h
    refine OpS.bin rfl rfl rfl rfl rfl ?_
    exact du h
   ·intro q1 w Γx Ωx h
    refine OpS.iptr h Tryz.underlying41 ty93 rfl rfl rfl rfl (V.at (.s (.s .z))) e18 (λ u h20=>?_)
    exact ⟨u,rfl,trivial,h20⟩
   ·intro q1 w Γx Ωx h
    refine OpS.fptr h fa93_0 Sample_.f0 rfl rfl rfl .z (λ u h21=>?_)
    exact ⟨u,rfl,trivial,h21⟩
   ·intro q1 w Γx Ωx h
    refine OpS.loadi h ty5 rfl rfl rfl .z ?_
    exact du h
   have h22:=h
   refine gb rfl (gk rfl (gm rfl ?_))
   refine RunL.caseb hF (λ e19 hF=>?_) (λ e19 hF=>?_)
   ·refine gp rfl (gp rfl (gp rfl (gp rfl (gp rfl (gp rfl (gp rfl (gp rfl (gp rfl (gp rfl (gp rfl (gp rfl (gp rfl (gk rfl (nil (Run.slim [(43,.bool true),(6,u3),(0,v0),(1,v1),(9,v1),(10,.int .i64 (a1.length:Int)),(11,.int .i64 s1)] ⟨rfl,rfl,rfl,rfl,rfl,rfl,rfl,trivial⟩ ?_)))))))))))))))
    refine Run.slim [(0,v0),(1,v1),(6,u3),(9,v1),(10,.int .i64 (a1.length:Int)),(11,.int .i64 s1),(43,.bool true)] ⟨rfl,rfl,rfl,rfl,rfl,rfl,rfl,trivial⟩ ?_
    exact hj1 (true) _ _ ⟨rfl,(h22.facts (.atm (.s (.s (.s (.s .z)))) .nil)).picks (.cons (.s .z) (.cons .z (.cons .z (.cons .z .nil))))⟩ hF
   refine op (OpS.fbox (o3:=1) h22 .z PA.z fa93_1 rfl rfl rfl rfl ?_)
   refine op (OpS.loadBb h22 .z PA.a (Get.fld Sample_.f1) ty4 rfl rfl rfl ?_)
   refine op (OpS.not rfl rfl rfl ?_)
   refine gm rfl ?_
   refine RunL.caseb hF (λ e20 hF=>?_) (λ e20 hF=>?_)
   ·refine op (OpS.fbox (o3:=2) h22 .z PA.z fa93_2 rfl rfl rfl rfl ?_)
    refine op (OpS.loadBi h22 .z PA.a (Get.fld Sample_.f2) ty5 rfl rfl rfl ?_)
    refine gb rfl (gm rfl ?_)
    refine RunL.caseb hF (λ e21 hF=>?_) (λ e21 hF=>?_)
    ·refine gp rfl (gp rfl (gp rfl (gk rfl (gk rfl (gk rfl (nil (Run.slim [(43,.bool true),(6,u3),(0,v0),(1,v1),(9,v1),(10,.int .i64 (a1.length:Int)),(11,.int .i64 s1)] ⟨rfl,rfl,rfl,rfl,rfl,rfl,rfl,trivial⟩ ?_)))))))
     refine Run.slim [(0,v0),(1,v1),(6,u3),(9,v1),(10,.int .i64 (a1.length:Int)),(11,.int .i64 s1),(43,.bool true)] ⟨rfl,rfl,rfl,rfl,rfl,rfl,rfl,trivial⟩ ?_
     exact hj1 (true) _ _ ⟨rfl,(h22.facts (.atm (.s (.s (.s (.s .z)))) .nil)).picks (.cons (.s .z) (.cons .z (.cons .z (.cons .z .nil))))⟩ hF
    refine op (OpS.fbox (o3:=3) h22 .z PA.z fa93_3 rfl rfl rfl rfl ?_)
    refine op (OpS.loadBi h22 .z PA.a (Get.fld Sample_.f3) ty49 rfl rfl rfl ?_)
    refine gb rfl (gk rfl (gk rfl (gk rfl (nil (Run.slim [(43,.bool (x1.States != 0)),(6,u3),(0,v0),(1,v1),(9,v1),(10,.int .i64 (a1.length:Int)),(11,.int .i64 s1)] ⟨rfl,rfl,rfl,rfl,rfl,rfl,rfl,trivial⟩ ?_)))))
    refine Run.slim [(0,v0),(1,v1),(6,u3),(9,v1),(10,.int .i64 (a1.length:Int)),(11,.int .i64 s1),(43,.bool (x1.States != 0))] ⟨rfl,rfl,rfl,rfl,rfl,rfl,rfl,trivial⟩ ?_
    exact hj1 (x1.States != 0) _ _ ⟨rfl,(h22.facts (.atm (.s (.s (.s (.s .z)))) .nil)).picks (.cons (.s .z) (.cons .z (.cons .z (.cons .z .nil))))⟩ hF
   refine gp rfl (gp rfl (gp rfl (gp rfl (gp rfl (gp rfl (gp rfl (gp rfl (gk rfl (gk rfl (nil (Run.slim [(43,.bool false),(6,u3),(0,v0),(1,v1),(9,v1),(10,.int .i64 (a1.length:Int)),(11,.int .i64 s1)] ⟨rfl,rfl,rfl,rfl,rfl,rfl,rfl,trivial⟩ ?_)))))))))))
   refine Run.slim [(0,v0),(1,v1),(6,u3),(9,v1),(10,.int .i64 (a1.length:Int)),(11,.int .i64 s1),(43,.bool false)] ⟨rfl,rfl,rfl,rfl,rfl,rfl,rfl,trivial⟩ ?_
   exact hj1 (false) _ _ ⟨rfl,(h22.facts (.atm (.s (.s (.s (.s .z)))) .nil)).picks (.cons (.s .z) (.cons .z (.cons .z (.cons .z .nil))))⟩ hF
  have hG:=hF
  subst e17
  have hF:=hG
  refine Run.drawV (Ωs:=[(false,.box 184 (monitor_Monitor.repW v0_0 v0_1) v0 a0),(false,.slice 188 Filter_.rep v0_0 a0.filters),(false,.slice 49 (Rep.int .u16) v0_1 a0.states)]) [.k 16 (.int .i64 s1),.k 17 (.bool (decide (s1>0))),.k 18 (.bool false),.k 19 undef,.k 20 undef,.k 21 undef,.k 22 undef,.k 23 undef,.k 24 undef,.k 25 undef,.k 26 undef] [[],[0],[1],[2],[2],[2],[2],[2],[2],[2],[2]] [[(false,.box 93 Sample_.rep u3 x1)]] [0,1,2,3,4,5,6,7,8,9,10,11] Try_mixed rfl rfl rfl h6 (.cons ?_ (.cons ?_ (.cons ?_ (.cons (dp λ _=>rfl) (.cons (dp λ _=>rfl) (.cons (dp λ _=>rfl) (.cons (dp λ _=>rfl) (.cons (dp λ _=>rfl) (.cons (dp λ _=>rfl) (.cons (dp λ _=>rfl) (.cons (dp λ _=>rfl) .nil))))))))))) (λ q1 w hq2 h=>?_)
  ·intro q1 w Γx Ωx h
   refine OpS.mv rfl rfl rfl ?_
   exact du h
  ·intro q1 w Γx Ωx h
   refine OpS.bin rfl rfl rfl rfl rfl ?_
   exact du h
  ·intro q1 w Γx Ωx h
   refine OpS.mv rfl rfl rfl ?_
   exact ⟨undef,(congrArg (λ z_=>some (Value.bool z_)) e16),trivial,h⟩
  have h23:=h
  refine gp rfl (gk rfl (gm rfl (op (OpS.fbox (o3:=1) h23 .z PA.z fa93_1 rfl rfl rfl rfl ?_))))
  refine op (OpS.loadBb h23 .z PA.a (Get.fld Sample_.f1) ty4 rfl rfl rfl ?_)
  refine op (OpS.not rfl rfl rfl ?_)
  refine gm rfl ?_
  refine RunL.caseb hF (λ e22 hF=>?_) (λ e22 hF=>?_)
  ·refine op (OpS.fbox (o3:=2) h23 .z PA.z fa93_2 rfl rfl rfl rfl ?_)
   refine op (OpS.loadBi h23 .z PA.a (Get.fld Sample_.f2) ty5 rfl rfl rfl ?_)
   refine gb rfl (gm rfl ?_)
   refine RunL.caseb hF (λ e23 hF=>?_) (λ e23 hF=>?_)
   ·refine gp rfl (gp rfl (gp rfl (gk rfl (gk rfl (gk rfl (nil (Run.slim [(43,.bool true),(6,u3),(0,v0),(1,v1),(9,v1),(10,.int .i64 (a1.length:Int)),(11,.int .i64 s1)] ⟨rfl,rfl,rfl,rfl,rfl,rfl,rfl,trivial⟩ ?_)))))))
    refine Run.slim [(0,v0),(1,v1),(6,u3),(9,v1),(10,.int .i64 (a1.length:Int)),(11,.int .i64 s1),(43,.bool true)] ⟨rfl,rfl,rfl,rfl,rfl,rfl,rfl,trivial⟩ ?_
    exact hj1 (true) _ _ ⟨rfl,(h23.facts (.atm (.s (.s .z)) .nil)).picks (.cons (.s .z) (.cons .z (.cons .z (.cons .z .nil))))⟩ hF
   refine op (OpS.fbox (o3:=3) h23 .z PA.z fa93_3 rfl rfl rfl rfl ?_)
   refine op (OpS.loadBi h23 .z PA.a (Get.fld Sample_.f3) ty49 rfl rfl rfl ?_)
   refine gb rfl (gk rfl (gk rfl (gk rfl (nil (Run.slim [(43,.bool (x1.States != 0)),(6,u3),(0,v0),(1,v1),(9,v1),(10,.int .i64 (a1.length:Int)),(11,.int .i64 s1)] ⟨rfl,rfl,rfl,rfl,rfl,rfl,rfl,trivial⟩ ?_)))))
   refine Run.slim [(0,v0),(1,v1),(6,u3),(9,v1),(10,.int .i64 (a1.length:Int)),(11,.int .i64 s1),(43,.bool (x1.States != 0))] ⟨rfl,rfl,rfl,rfl,rfl,rfl,rfl,trivial⟩ ?_
   exact hj1 (x1.States != 0) _ _ ⟨rfl,(h23.facts (.atm (.s (.s .z)) .nil)).picks (.cons (.s .z) (.cons .z (.cons .z (.cons .z .nil))))⟩ hF
  refine gp rfl (gp rfl (gp rfl (gp rfl (gp rfl (gp rfl (gp rfl (gp rfl (gk rfl (gk rfl (nil (Run.slim [(43,.bool false),(6,u3),(0,v0),(1,v1),(9,v1),(10,.int .i64 (a1.length:Int)),(11,.int .i64 s1)] ⟨rfl,rfl,rfl,rfl,rfl,rfl,rfl,trivial⟩ ?_)))))))))))
  refine Run.slim [(0,v0),(1,v1),(6,u3),(9,v1),(10,.int .i64 (a1.length:Int)),(11,.int .i64 s1),(43,.bool false)] ⟨rfl,rfl,rfl,rfl,rfl,rfl,rfl,trivial⟩ ?_
  exact hj1 (false) _ _ ⟨rfl,(h23.facts (.atm (.s (.s .z)) .nil)).picks (.cons (.s .z) (.cons .z (.cons .z (.cons .z .nil))))⟩ hF
 refine Run.exit rfl ?_
 refine sr (ga rfl (nil (Run.retP rfl (.tmp rfl .nil) ?_)))
 cases hF
 exact Post.mk' ⟨rfl,rfl,rfl,rfl⟩ (h1.picks (.cons .z (.cons .z (.cons .z .nil)))) .nil
theorem entity_present_1_2_ok {fuel:Nat} {a0:Entity_} {a1:List Entity_} {y:Bool} (hF:entity_present_1_2 fuel a0 a1=some y) {w:World} {v0 v1:Value} :
  Spec Tryz.prog 206 [v0,v1].toArray w [(false,.val Entity_.rep v0 a0),(false,.ptr (Rep.slice Entity_.rep) v1 a1)] [] (λ v Γr Ωr Ωo=>v=.bool y∧Γr=[]∧Ωr=[]∧Ωo=[]):=by
 refine Spec.of (L:=[(0,v0),(1,v1)]) Tryz.func206 rfl ⟨rfl,rfl,trivial⟩ rfl (λ e h=>?_)
 unfold entity_present_1_2 at hF
 refine sr (op (OpS.boxF h rfl rfl rfl (V.at .z) (λ u1 w1 h1=>?_)))
 refine ga rfl (nil (sr (op (OpS.load h1 ty43 rfl rfl rfl (.s .z) (λ u2 h2=>?_)))))
 refine op (OpS.loadB h2 .z PA.z Get.id ty66 rfl rfl rfl (λ u3 h3=>?_))
 obtain ⟨y1,e1,hF⟩:=bindP_use hF
 refine op (OpS.callP h3 Tryz.func160 rfl rfl rfl rfl (vs:=[u2,u3]) rfl (slices_Contains_api_Entity_api_Entity_ok e1) (.cons (f:=false) (V.at (.s .z)) (.cons (f:=false) (V.at .z) .nil)) ?_)
 rintro _ w2 _ _ _ ⟨rfl,rfl,rfl,rfl⟩ h4
 have h5:=h4 rfl rfl
 simp only [ca,na] at h5
 refine ga rfl (nil (Run.retP rfl (.tmp rfl .nil) ?_))
 cases hF
 exact Post.mk' ⟨rfl,rfl,rfl,rfl⟩ (h5.picks .nil) .nil
theorem slices_IndexFunc_api_Entity_api_Entity_entity_present_1_ok {fuel:Nat} {a0:List Entity_} {a1_0:List Entity_} {y:Int} (hF:slices_IndexFunc_api_Entity_api_Entity_entity_present_1 fuel a0 a1_0=some y) {w:World} {v0 v1_0:Value} :
  Spec Tryz.prog 240 [v0,.func (.func 206) #[] #[v1_0]].toArray w [(false,.val (Rep.slice Entity_.rep) v0 a0),(false,.ptr (Rep.slice Entity_.rep) v1_0 a1_0)] [] (λ v Γr Ωr Ωo=>v=.int .i64 y∧Γr=[]∧Ωr=[]∧Ωo=[]):=by
 refine Spec.of (L:=[(0,v0),(1,.func (.func 206) #[] #[v1_0])]) Tryz.func240 rfl ⟨rfl,rfl,trivial⟩ rfl (λ e h=>?_)
 unfold slices_IndexFunc_api_Entity_api_Entity_entity_present_1 at hF
 refine sr (ga rfl (nil (Run.seq (sr (gm rfl (op (OpS.len h Tryz.underlying43 rfl rfl rfl (V.at .z) ?_)))))))
 refine gm rfl (nil (Run.block (Run.slim [(0,v0),(1,.func (.func 206) #[] #[v1_0]),(7,.int .i64 (a0.length:Int)),(8,.int .i64 0)] ⟨rfl,rfl,rfl,rfl,trivial⟩ ?_)))
 refine Run.loopP (σ:=Int) (λ s_ L_ w_=>L_=[(0,v0),(1,.func (.func 206) #[] #[v1_0]),(7,.int .i64 (a0.length:Int)),(8,.int .i64 s_)]∧St e w_ [(false,.val (Rep.slice Entity_.rep) v0 a0),(false,.ptr (Rep.slice Entity_.rep) v1_0 a1_0)] []) hF ⟨rfl,(h.facts (.atm .z (.atm (.s .z) .nil))).picks .nil⟩ (λ k1 hk1 s1 _ w1 hI hF=>?_)
 obtain ⟨rfl,h1⟩:=hI
 refine sr (gb rfl (nil (Run.seq ?_)))
 refine Run.ite rfl hF (λ e1 hF=>?_) (λ e1 hF=>?_)
 ·refine Run.skip (Run.seq (Run.block (sr (gm rfl (ga rfl (nil (sr (gm rfl (gm rfl (gm rfl ?_))))))))))
  obtain ⟨x1,e2,hF⟩:=bindP_use hF
  refine op (OpS.iptr h1 Tryz.underlying43 ty66 rfl rfl rfl rfl (V.at .z) e2 (λ u1 h2=>?_))
  refine op (OpS.load h2 ty66 rfl rfl rfl .z (λ u2 h3=>?_))
  obtain ⟨y1,e3,hF⟩:=bindP_use hF
  refine op (OpS.callPF (fl:=[]) (cl:=[v1_0]) h3 Tryz.func206 rfl rfl rfl rfl rfl (vs:=[u2]) rfl (entity_present_1_2_ok e3) (.cons (f:=false) (V.at .z) (.ptr (.s (.s (.s .z))) .nil)) ?_)
  rintro _ w2 _ _ _ ⟨rfl,rfl,rfl,rfl⟩ h4
  have h5:=h4 rfl rfl
  simp only [ca,na] at h5
  refine nil ?_
  refine Run.ite rfl hF (λ e4 hF=>?_) (λ e4 hF=>?_)
  ·refine sr (gm rfl (ga rfl (nil (Run.retP rfl (.tmp rfl .nil) ?_))))
   cases hF
   exact Post.mk' ⟨rfl,rfl,rfl,rfl⟩ (h5.picks .nil) .nil
  refine Run.skip (Run.endBlock (Run.reg (gb rfl (gm rfl (nil (Run.slim [(0,v0),(1,.func (.func 206) #[] #[v1_0]),(7,.int .i64 (a0.length:Int)),(8,.int .i64 (IntKind.i64.wrap (s1+1)))] ⟨rfl,rfl,rfl,rfl,trivial⟩ ?_))))))
  exact hk1 ((IntKind.i64.wrap (s1+1))) _ _ ⟨rfl,(h5.facts (.atm (.s (.s .z)) (.atm (.s (.s (.s .z))) .nil))).picks .nil⟩ hF
 refine Run.exit rfl ?_
 refine sr (ga rfl (nil (Run.retP rfl (.tmp rfl .nil) ?_)))
 cases hF
 exact Post.mk' ⟨rfl,rfl,rfl,rfl⟩ (h1.picks .nil) .nil
theorem slices_ContainsFunc_api_Entity_api_Entity_entity_present_1_ok {fuel:Nat} {a0:List Entity_} {a1_0:List Entity_} {y:Bool} (hF:slices_ContainsFunc_api_Entity_api_Entity_entity_present_1 fuel a0 a1_0=some y) {w:World} {v0 v1_0:Value} :
  Spec Tryz.prog 205 [v0,.func (.func 206) #[] #[v1_0]].toArray w [(false,.val (Rep.slice Entity_.rep) v0 a0),(false,.ptr (Rep.slice Entity_.rep) v1_0 a1_0)] [] (λ v Γr Ωr Ωo=>v=.bool y∧Γr=[]∧Ωr=[]∧Ωo=[]):=by
 refine Spec.of (L:=[(0,v0),(1,.func (.func 206) #[] #[v1_0])]) Tryz.func205 rfl ⟨rfl,rfl,trivial⟩ rfl (λ e h=>?_)
 unfold slices_ContainsFunc_api_Entity_api_Entity_entity_present_1 at hF
 refine sr (ga rfl (nil (sr (gm rfl (gm rfl ?_)))))
 obtain ⟨y1,e1,hF⟩:=bindP_use hF
 refine op (OpS.callP h Tryz.func240 rfl rfl rfl rfl (vs:=[v0,.func (.func 206) #[] #[v1_0]]) rfl (slices_IndexFunc_api_Entity_api_Entity_entity_present_1_ok e1) (.cons (f:=false) (V.at .z) (.ptr (.s .z) .nil)) ?_)
 rintro _ w1 _ _ _ ⟨rfl,rfl,rfl,rfl⟩ h1
 have h2:=h1 rfl rfl
 simp only [ca,na] at h2
 refine gb rfl (ga rfl ?_)
 obtain ⟨x1,e2,hF⟩:=letP_use hF
 refine RunL.nameb e2 ?_
 refine nil (Run.retP rfl (.tmp rfl .nil) ?_)
 cases hF
 exact Post.mk' ⟨rfl,rfl,rfl,rfl⟩ (h2.picks .nil) .nil
set_option maxRecDepth 20000 in
theorem entity_present_ok {fuel:Nat} {a0:List Association_} {a1:List Entity_} {a2:Entity_} {y:Bool} (hF:entity_present fuel a0 a1 a2=some y) {w:World} {v0 v1 v2:Value} :
  Spec Tryz.prog 149 [v0,v1,v2].toArray w [(false,.val (Rep.slice Association_.rep) v0 a0),(false,.val (Rep.slice Entity_.rep) v1 a1),(false,.val Entity_.rep v2 a2)] [] (λ v Γr Ωr Ωo=>v=.bool y∧Γr=[]∧Ωr=[]∧Ωo=[]):=by
 refine Spec.of (L:=[(0,v0),(1,v1),(2,v2)]) Tryz.func149 rfl ⟨rfl,rfl,rfl,trivial⟩ rfl (λ e h=>?_)
 unfold entity_present at hF
 refine sr (op (OpS.boxF h rfl rfl rfl (V.at (.s .z)) (λ u1 w1 h1=>?_)))
 refine op (OpS.boxF h1 rfl rfl rfl (V.at (.s (.s .z))) (λ u2 w2 h2=>?_))
 refine ga rfl (nil (Run.seq ?_))
 obtain ⟨y1,e1,hF⟩:=bindP_use hF
 obtain ⟨x1,e2,hF⟩:=bindP_use hF
 refine Run.drawV (Ωs:=[(false,.box 43 (Rep.slice Entity_.rep) u1 a1)]) [.k 7 v0,.fr 8 (λ u_=>[(false,.val Entity_.rep u_ a2)]) [0],⟨some 9,none,λ u_=>[],λ ds_ u_=>[(true,.slice 66 Entity_.rep u_ y1)],[],[],none⟩,.fr 10 (λ u_=>[(false,.val Entity_.rep u_ a2)]) [0],.f 11 (λ u_=>[(false,.val (Rep.slice Entity_.rep) u_ ([a2]))]),⟨some 12,none,λ u_=>[],λ ds_ u_=>[(true,.slice 66 Entity_.rep u_ x1)],[3],[],none⟩,.k 13 (.func (.func 206) #[] #[u1])] [[],[],[0,1],[],[3],[2,4],[]] [[(false,.box 66 Entity_.rep u2 a2)]] [0,1,2,4,5,6,7] Try_mixed rfl rfl rfl h2 (.cons ?_ (.cons ?_ (.cons ?_ (.cons ?_ (.cons ?_ (.cons ?_ (.cons ?_ .nil))))))) (λ q1 w hq1 h=>?_)
 ·intro q1 w Γx Ωx h
  refine OpS.mv rfl rfl rfl ?_
  exact du h
 ·intro q1 w Γx Ωx h
  refine OpS.loadB h .z PA.z Get.id ty66 rfl rfl rfl (λ u h9=>?_)
  exact ⟨u,rfl,trivial,h9⟩
 ·intro q1 w Γx Ωx h
  refine OpS.callP h Tryz.func161 rfl rfl rfl rfl (vs:=[v0,(q1 1)]) rfl (entity_around_ok e1) (.cons (f:=false) (V.at (.s .z)) (.cons (f:=false) (V.at .z) .nil)) ?_
  rintro u w6 _ _ _ ⟨_,rfl,rfl,rfl,rfl⟩ h10
  have h11:=h10 rfl rfl
  simp only [ca,na] at h11
  exact ⟨u,rfl,trivial,h11⟩
 ·intro q1 w Γx Ωx h
  refine OpS.loadB h .z PA.z Get.id ty66 rfl rfl rfl (λ u h12=>?_)
  exact ⟨u,rfl,trivial,h12⟩
 ·intro q1 w Γx Ωx h
  refine OpS.lit (r:=Entity_.rep) (f:=false) h Tryz.underlying43 ti66 rfl rfl rfl rfl rfl (.cons rfl (V.at .z) .nil) rfl rfl (λ u w7 h13=>?_)
  exact ⟨u,rfl,trivial,h13⟩
 ·intro q1 w Γx Ωx h
  refine OpS.app (f':=false) h .z Tryz.underlying43 ti66 rfl rfl rfl rfl rfl rfl rfl (V.at .z) (.inr Entity_.pure) e2 (λ u w8 h14=>?_)
  exact ⟨u,rfl,trivial,h14⟩
 ·intro q1 w Γx Ωx h
  refine OpS.mkf (fl:=[]) (cl:=[u1]) rfl rfl rfl rfl ?_
  exact du h
 have h15:=h
 obtain ⟨y2,e3,hF⟩:=bindP_use hF
 refine op (OpS.callP h15 Tryz.func205 rfl rfl rfl rfl (vs:=[(q1 5),.func (.func 206) #[] #[u1]]) rfl (slices_ContainsFunc_api_Entity_api_Entity_entity_present_1_ok e3) (.own (.s .z) (.box (.s (.s .z)) .nil)) ?_)
 rintro _ w9 _ _ _ ⟨rfl,rfl,rfl,rfl⟩ h16
 have h17:=h16 rfl rfl
 simp only [ca,na] at h17
 refine op (OpS.not rfl rfl rfl ?_)
 refine ga rfl ?_
 obtain ⟨x2,e4,hF⟩:=letP_use hF
 refine RunL.nameb e4 ?_
 refine nil (Run.retP rfl (.tmp rfl .nil) ?_)
 cases hF
 exact Post.mk' ⟨rfl,rfl,rfl,rfl⟩ (h17.picks .nil) .nil
theorem entity_Present_ok {fuel:Nat} {a0:List Association_} {a1:List Entity_} {a2:Entity_} {y:Bool×Int} (hF:entity_Present fuel a0 a1 a2=some y) {w:World} {v0 v1 v2:Value} :
  Spec Tryz.prog 78 [v0,v1,v2].toArray w [(false,.val (Rep.slice Association_.rep) v0 a0),(false,.val (Rep.slice Entity_.rep) v1 a1),(false,.val Entity_.rep v2 a2)] [] (λ v Γr Ωr Ωo=>v=.tuple #[.bool y.1,.int .i64 y.2]∧Γr=[]∧Ωr=[]∧Ωo=[]):=by
 refine Spec.of (L:=[(0,v0),(1,v1),(2,v2)]) Tryz.func78 rfl ⟨rfl,rfl,rfl,trivial⟩ rfl (λ e h=>?_)
 unfold entity_Present at hF
 refine sr (op (OpS.boxF h rfl rfl rfl (V.at (.s (.s .z))) (λ u1 w1 h1=>?_)))
 refine ga rfl (ga rfl (nil (Run.seq (sr (gm rfl ?_)))))
 obtain ⟨y1,e1,hF⟩:=bindP_use hF
 refine op (OpS.callP h1 Tryz.func96 rfl rfl rfl rfl (vs:=[v0]) rfl (entity_Check_ok e1) (.cons (f:=false) (V.at .z) .nil) ?_)
 rintro _ w2 _ _ _ ⟨rfl,rfl,rfl,rfl⟩ h2
 have h3:=h2 rfl rfl
 simp only [ca,na] at h3
 refine ga rfl (nil (sr (gm rfl (gb rfl (nil ?_)))))
 refine Run.ite rfl hF (λ e2 hF=>?_) (λ e2 hF=>?_)
 ·refine sr (gm rfl (ga rfl (ga rfl (nil (Run.retP rfl (.tmp rfl (.tmp rfl .nil)) ?_)))))
  cases hF
  exact Post.mk' ⟨rfl,rfl,rfl,rfl⟩ (h3.picks .nil) .nil
 refine Run.skip (sr (gm rfl (gm rfl (op (OpS.loadB h3 .z PA.z Get.id ty66 rfl rfl rfl (λ u2 h4=>?_))))))
 obtain ⟨y2,e3,hF⟩:=bindP_use hF
 refine op (OpS.callP h4 Tryz.func149 rfl rfl rfl rfl (vs:=[v0,v1,u2]) rfl (entity_present_ok e3) (.cons (f:=false) (V.at (.s .z)) (.cons (f:=false) (V.at (.s (.s .z))) (.cons (f:=false) (V.at .z) .nil))) ?_)
 rintro _ w3 _ _ _ ⟨rfl,rfl,rfl,rfl⟩ h5
 have h6:=h5 rfl rfl
 simp only [ca,na] at h6
 refine ga rfl (ga rfl (nil (Run.retP rfl (.tmp rfl (.tmp rfl .nil)) ?_)))
 cases hF
 exact Post.mk' ⟨rfl,rfl,rfl,rfl⟩ (h6.picks .nil) .nil
theorem discrete_Step_ok {fuel:Nat} {a0:Sensor_} {a1:Int} {a2:Int} {y:Int×(List Change_)×Int} (hF:discrete_Step fuel a0 a1 a2=some y) {w:World} {v0:Value} :
  Spec Tryz.prog 150 [v0,.int .u16 a1,.int .u16 a2].toArray w [(false,.val Sensor_.rep v0 a0)] [] (λ v Γr Ωr Ωo=>∃ u1:Value,v=.tuple #[.int .u16 y.1,u1,.int .i64 y.2.2]∧Γr=[]∧Ωr=[(true,(.slice 288 Change_.rep u1 y.2.1))]∧Ωo=[]):=by
 refine Spec.of (L:=[(0,v0),(1,.int .u16 a1),(2,.int .u16 a2)]) Tryz.func150 rfl ⟨rfl,rfl,rfl,trivial⟩ rfl (λ e h=>?_)
 unfold discrete_Step at hF
 refine sr (op (OpS.boxF h rfl rfl rfl (V.at .z) (λ u1 w1 h1=>?_)))
 refine ga rfl (ga rfl (ga rfl (nil (Run.seq (Run.block (sr (op (OpS.fbox (o3:=6) h1 .z PA.z fa74_5 rfl rfl rfl rfl ?_))))))))
 refine op (OpS.loadBb h1 .z PA.a (Get.fld Sensor_.f5) ty4 rfl rfl rfl ?_)
 refine op (OpS.not rfl rfl rfl ?_)
 refine gm rfl ?_
 refine RunL.join (σ:=Bool) (λ s_ L_ w_=>L_=[(1,.int .u16 a1),(2,.int .u16 a2),(3,u1),(11,.bool s_)]∧St e w_ [] [(false,.box 74 Sensor_.rep u1 a0)]) hF (λ s1 _ w2 hI hF=>?_) (λ j1 hj1 hF=>?_)
 ·obtain ⟨rfl,h2⟩:=hI
  refine Run.ite rfl hF (λ e1 hF=>?_) (λ e1 hF=>?_)
  ·refine sr (ga rfl (ga rfl (ga rfl (nil ?_))))
   have h3:=St.nil 288 Change_.rep h2
   refine Run.retP rfl (.tmp rfl (.tmp rfl (.tmp rfl .nil))) ?_
   cases hF
   exact Post.mk' ⟨(.slice none 0 0),rfl,rfl,rfl,rfl⟩ (h3.picks (.cons .z .nil)) .nil
  refine sr (gm rfl (gm rfl (gb rfl (op (OpS.fbox (o3:=23) h2 .z PA.z fa74_10 rfl rfl rfl rfl ?_)))))
  refine op (OpS.loadBi h2 .z PA.a (Get.fld Sensor_.f10) ty49 rfl rfl rfl ?_)
  refine gb rfl (gb rfl (ga rfl ?_))
  obtain ⟨x1,e2,hF⟩:=letP_use hF
  refine RunL.nameb e2 ?_
  refine nil ?_
  refine Run.ite rfl hF (λ e3 hF=>?_) (λ e3 hF=>?_)
  ·refine sr (ga rfl (ga rfl (ga rfl (nil ?_))))
   have h4:=St.nil 288 Change_.rep h2
   refine Run.retP rfl (.tmp rfl (.tmp rfl (.tmp rfl .nil))) ?_
   cases hF
   exact Post.mk' ⟨(.slice none 0 0),rfl,rfl,rfl,rfl⟩ (h4.picks (.cons .z .nil)) .nil
  refine Run.skip (Run.endBlock (sr (ga rfl (nil (Run.seq (sr (gm rfl (nil (Run.block ?_)))))))))
  have h5:=St.nil 288 Change_.rep h2
  refine Run.slim [(1,.int .u16 a1),(2,.int .u16 a2),(9,(.slice none 0 0)),(28,.int .i64 0)] ⟨rfl,rfl,rfl,rfl,trivial⟩ ?_
  refine Run.loopP (σ:=(Int×(List Change_))) (λ s_ L_ w_=>∃ u0_:Value,L_=[(1,.int .u16 a1),(2,.int .u16 a2),(9,u0_),(28,.int .i64 s_.1)]∧St e w_ [] [(true,.slice 288 Change_.rep u0_ s_.2)]) hF ⟨(.slice none 0 0),rfl,(h5.facts .nil).picks (.cons .z .nil)⟩ (λ k1 hk1 s2 _ w3 hI hF=>?_)
  obtain ⟨u2,rfl,h6⟩:=hI
  refine sr (gb rfl (nil (Run.seq ?_)))
  refine Run.ite rfl hF (λ e4 hF=>?_) (λ e4 hF=>?_)
  ·refine Run.skip (Run.seq (Run.block (sr (gm rfl (ga rfl (nil (sr (gm rfl (gm rfl (gb rfl (gm rfl ?_)))))))))))
   obtain ⟨e5,hF⟩:=chk_use hF
   refine op (OpS.shr rfl rfl rfl rfl e5 ?_)
   refine gb rfl (gb rfl (nil ?_))
   refine Run.ite rfl hF (λ e6 hF=>?_) (λ e6 hF=>?_)
   ·refine Run.reg (gm rfl (gm rfl (gm rfl (gm rfl ?_))))
    obtain ⟨e7,hF⟩:=chk_use hF
    refine op (OpS.shr rfl rfl rfl rfl e7 ?_)
    refine gb rfl (gb rfl (op (OpS.build (f:=true) (x':=(⟨s2.1,(bAnd .u16 (bShr .u16 a2 s2.1) 1)==1⟩:Change_)) h6 pl288 ti288 Change_.zr rfl rfl rfl (.cons rfl Change_.f0 rfl V.int (.cons rfl Change_.f1 rfl V.bool .nil)) (λ u3 h7=>?_))))
    refine op (OpS.lit (r:=Change_.rep) (f:=true) h7 Tryz.underlying191 ti288 rfl rfl rfl rfl rfl (.cons rfl (V.at .z) .nil) rfl rfl (λ u4 w4 h8=>?_))
    obtain ⟨x2,e8,hF⟩:=bindP_use hF
    refine op (OpS.app (f':=true) h8 .z Tryz.underlying191 ti288 rfl rfl rfl rfl rfl rfl rfl (V.at .z) (.inr Change_.pure) e8 (λ u5 w5 h9=>?_))
    refine ga rfl (nil (Run.endBlock (Run.reg (gb rfl (gm rfl (nil (Run.slim [(1,.int .u16 a1),(2,.int .u16 a2),(9,u5),(28,.int .i64 (IntKind.i64.wrap (s2.1+1)))] ⟨rfl,rfl,rfl,rfl,trivial⟩ ?_)))))))
    exact hk1 ((IntKind.i64.wrap (s2.1+1)),x2) _ _ ⟨u5,rfl,(h9.facts .nil).picks (.cons .z .nil)⟩ hF
   refine Run.skip (Run.endBlock (Run.reg (gb rfl (gm rfl (nil (Run.slim [(1,.int .u16 a1),(2,.int .u16 a2),(9,u2),(28,.int .i64 (IntKind.i64.wrap (s2.1+1)))] ⟨rfl,rfl,rfl,rfl,trivial⟩ ?_))))))
   exact hk1 ((IntKind.i64.wrap (s2.1+1)),s2.2) _ _ ⟨u2,rfl,(h6.facts .nil).picks (.cons .z .nil)⟩ hF
  refine Run.exit rfl ?_
  refine sr (gm rfl (gm rfl (ga rfl (ga rfl (ga rfl (nil (Run.retP rfl (.tmp rfl (.tmp rfl (.tmp rfl .nil))) ?_)))))))
  cases hF
  exact Post.mk' ⟨u2,rfl,rfl,rfl,rfl⟩ (h6.picks (.cons .z .nil)) .nil
 refine RunL.caseb hF (λ e9 hF=>?_) (λ e9 hF=>?_)
 ·refine gp rfl (gp rfl (gp rfl (gk rfl (ga rfl (nil (Run.slim [(1,.int .u16 a1),(2,.int .u16 a2),(3,u1),(11,.bool true)] ⟨rfl,rfl,rfl,rfl,trivial⟩ ?_))))))
  exact hj1 (true) _ _ ⟨rfl,(h1.facts .nil).picks (.cons .z .nil)⟩ hF
 refine op (OpS.loadB h1 .z PA.z Get.id ty74 rfl rfl rfl (λ u6 h10=>?_))
 obtain ⟨y1,e10,hF⟩:=bindP_use hF
 refine op (OpS.callP h10 Tryz.func107 rfl rfl rfl rfl (vs:=[u6]) rfl (sensor_Valid_ok e10) (.cons (f:=false) (V.at .z) .nil) ?_)
 rintro _ w6 _ _ _ ⟨rfl,rfl,rfl,rfl⟩ h11
 have h12:=h11 rfl rfl
 simp only [ca,na] at h12
 refine op (OpS.not rfl rfl rfl ?_)
 refine gk rfl (ga rfl ?_)
 obtain ⟨x3,e11,hF⟩:=letP_use hF
 refine RunL.nameb e11 ?_
 refine nil (Run.slim [(1,.int .u16 a1),(2,.int .u16 a2),(3,u1),(11,.bool x3)] ⟨rfl,rfl,rfl,rfl,trivial⟩ ?_)
 exact hj1 (x3) _ _ ⟨rfl,(h12.facts .nil).picks (.cons .z .nil)⟩ hF
theorem sampling_Valid_ok {fuel:Nat} {a0:Sensor_} {a1:Filter_} {y:Bool} (hF:sampling_Valid fuel a0 a1=some y) {w:World} {v0 v1:Value} :
  Spec Tryz.prog 162 [v0,v1].toArray w [(false,.val Sensor_.rep v0 a0),(false,.val Filter_.rep v1 a1)] [] (λ v Γr Ωr Ωo=>v=.bool y∧Γr=[]∧Ωr=[]∧Ωo=[]):=by
 refine Spec.of (L:=[(0,v0),(1,v1)]) Tryz.func162 rfl ⟨rfl,rfl,trivial⟩ rfl (λ e h=>?_)
 unfold sampling_Valid at hF
 refine sr (op (OpS.boxF h rfl rfl rfl (V.at .z) (λ u1 w1 h1=>?_)))
 refine op (OpS.boxF h1 rfl rfl rfl (V.at (.s .z)) (λ u2 w2 h2=>?_))
 refine ga rfl (nil (Run.seq (sr (op (OpS.loadB h2 (.s .z) PA.z Get.id ty74 rfl rfl rfl (λ u3 h3=>?_))))))
 obtain ⟨y1,e1,hF⟩:=bindP_use hF
 refine op (OpS.callP h3 Tryz.func107 rfl rfl rfl rfl (vs:=[u3]) rfl (sensor_Valid_ok e1) (.cons (f:=false) (V.at .z) .nil) ?_)
 rintro _ w3 _ _ _ ⟨rfl,rfl,rfl,rfl⟩ h4
 have h5:=h4 rfl rfl
 simp only [ca,na] at h5
 refine op (OpS.not rfl rfl rfl ?_)
 refine gm rfl ?_
 refine RunL.join (σ:=Bool) (λ s_ L_ w_=>L_=[(3,u2),(25,.bool s_)]∧St e w_ [] [(false,.box 188 Filter_.rep u2 a1)]) hF (λ s1 _ w4 hI hF=>?_) (λ j1 hj1 hF=>?_)
 ·obtain ⟨rfl,h6⟩:=hI
  refine Run.ite rfl hF (λ e2 hF=>?_) (λ e2 hF=>?_)
  ·refine sr (ga rfl (nil (Run.retP rfl (.tmp rfl .nil) ?_)))
   cases hF
   exact Post.mk' ⟨rfl,rfl,rfl,rfl⟩ (h6.picks .nil) .nil
  refine Run.skip (sr (op (OpS.fbox (o3:=1) h6 .z PA.z fa188_1 rfl rfl rfl rfl ?_)))
  refine op (OpS.loadBi h6 .z PA.a (Get.fld Filter_.f1) ty3 rfl rfl rfl ?_)
  refine gb rfl (gm rfl ?_)
  refine RunL.caseb hF (λ e3 hF=>?_) (λ e3 hF=>?_)
  ·refine gp rfl (gp rfl (gp rfl (gp rfl (gk rfl (ga rfl (nil (Run.retP rfl (.tmp rfl .nil) ?_)))))))
   cases hF
   exact Post.mk' ⟨rfl,rfl,rfl,rfl⟩ (h6.picks .nil) .nil
  refine op (OpS.fbox (o3:=0) h6 .z PA.z fa188_0 rfl rfl rfl rfl ?_)
  refine op (OpS.loadB h6 .z PA.a (Get.fld Filter_.f0) ty24 rfl rfl rfl (λ u4 h7=>?_))
  refine op (OpS.len h7 Tryz.underlying24 rfl rfl rfl (V.at .z) ?_)
  refine gb rfl (gk rfl (ga rfl ?_))
  obtain ⟨x1,e4,hF⟩:=letP_use hF
  refine RunL.nameb e4 ?_
  refine nil (Run.retP rfl (.tmp rfl .nil) ?_)
  cases hF
  exact Post.mk' ⟨rfl,rfl,rfl,rfl⟩ (h7.picks .nil) .nil
 refine RunL.caseb hF (λ e5 hF=>?_) (λ e5 hF=>?_)
 ·refine gp rfl (gp rfl (gp rfl (gp rfl (gp rfl (gp rfl (gk rfl (gm rfl (gp rfl (gp rfl (gp rfl (gk rfl (gm rfl (gp rfl (gp rfl (gp rfl (gk rfl ?_))))))))))))))))
  refine nil (Run.slim [(3,u2),(25,.bool true)] ⟨rfl,rfl,trivial⟩ ?_)
  exact hj1 (true) _ _ ⟨rfl,(h5.facts .nil).picks (.cons .z .nil)⟩ hF
 refine op (OpS.fbox (o3:=0) h5 .z PA.z fa188_0 rfl rfl rfl rfl ?_)
 refine op (OpS.loadB h5 .z PA.a (Get.fld Filter_.f0) ty24 rfl rfl rfl (λ u5 h8=>?_))
 refine op (OpS.len h8 Tryz.underlying24 rfl rfl rfl (V.at .z) ?_)
 refine op (OpS.fbox (o3:=27) h8 (.s .z) PA.z fa74_14 rfl rfl rfl rfl ?_)
 refine op (OpS.loadBi h8 (.s .z) PA.a (Get.fld Sensor_.f14) ty3 rfl rfl rfl ?_)
 refine gb rfl (gk rfl (gm rfl ?_))
 refine RunL.caseb hF (λ e6 hF=>?_) (λ e6 hF=>?_)
 ·refine gp rfl (gp rfl (gp rfl (gk rfl (gm rfl (gp rfl (gp rfl (gp rfl (gk rfl (nil (Run.slim [(3,u2),(25,.bool true)] ⟨rfl,rfl,trivial⟩ ?_))))))))))
  exact hj1 (true) _ _ ⟨rfl,(h8.facts .nil).picks (.cons .z .nil)⟩ hF
 refine op (OpS.fbox (o3:=1) h8 .z PA.z fa188_1 rfl rfl rfl rfl ?_)
 refine op (OpS.loadBi h8 .z PA.a (Get.fld Filter_.f1) ty3 rfl rfl rfl ?_)
 refine gb rfl (gk rfl (gm rfl ?_))
 refine RunL.caseb hF (λ e7 hF=>?_) (λ e7 hF=>?_)
 ·refine gp rfl (gp rfl (gp rfl (gk rfl (nil (Run.slim [(3,u2),(25,.bool true)] ⟨rfl,rfl,trivial⟩ ?_)))))
  exact hj1 (true) _ _ ⟨rfl,(h8.facts .nil).picks (.cons .z .nil)⟩ hF
 refine op (OpS.fbox (o3:=1) h8 .z PA.z fa188_1 rfl rfl rfl rfl ?_)
 refine op (OpS.loadBi h8 .z PA.a (Get.fld Filter_.f1) ty3 rfl rfl rfl ?_)
 refine gb rfl (gk rfl (nil (Run.slim [(3,u2),(25,.bool (decide (a1.Missing>3)))] ⟨rfl,rfl,trivial⟩ ?_)))
 exact hj1 (decide (a1.Missing>3)) _ _ ⟨rfl,(h8.facts .nil).picks (.cons .z .nil)⟩ hF
set_option maxHeartbeats 8000000 in set_option maxRecDepth 20000 in
theorem sampling_Step_ok {fuel:Nat} {a0:Sensor_} {a1:Filter_} {a2:Int} {a3:Bool} {y:Filter_×Int} (hF:sampling_Step fuel a0 a1 a2 a3=some y) {w:World} {v0 v1:Value} :
  Spec Tryz.prog 151 [v0,v1,.int .u8 a2,.bool a3].toArray w [(false,.val Sensor_.rep v0 a0),(false,.val Filter_.rep v1 a1)] [] (λ v Γr Ωr Ωo=>∃ u0:Value,v=.tuple #[u0,.int .i64 y.2]∧Γr=[(true,.val Filter_.rep u0 y.1)]∧Ωr=[]∧Ωo=[]):=by
 refine Spec.of (L:=[(0,v0),(1,v1),(2,.int .u8 a2),(3,.bool a3)]) Tryz.func151 rfl ⟨rfl,rfl,rfl,rfl,trivial⟩ rfl (λ e h=>?_)
 unfold sampling_Step at hF
 refine sr (op (OpS.boxF h rfl rfl rfl (V.at .z) (λ u1 w1 h1=>?_)))
 refine op (OpS.boxF h1 rfl rfl rfl (V.at (.s .z)) (λ u2 w2 h2=>?_))
 refine op (OpS.alloc h2 ti188 Filter_.zr rfl rfl (λ u3 w3 h3=>?_))
 refine ga rfl (nil (Run.seq (sr (op (OpS.loadB h3 (.s (.s .z)) PA.z Get.id ty74 rfl rfl rfl (λ u4 h4=>?_))))))
 refine op (OpS.loadB h4 (.s .z) PA.z Get.id ty188 rfl rfl rfl (λ u5 h5=>?_))
 obtain ⟨y1,e1,hF⟩:=bindP_use hF
 refine op (OpS.callP h5 Tryz.func162 rfl rfl rfl rfl (vs:=[u4,u5]) rfl (sampling_Valid_ok e1) (.cons (f:=false) (V.at (.s .z)) (.cons (f:=false) (V.at .z) .nil)) ?_)
 rintro _ w4 _ _ _ ⟨rfl,rfl,rfl,rfl⟩ h6
 have h7:=h6 rfl rfl
 simp only [ca,na] at h7
 refine op (OpS.not rfl rfl rfl ?_)
 refine nil ?_
 refine Run.ite rfl hF (λ e2 hF=>?_) (λ e2 hF=>?_)
 ·refine sr (op (OpS.build (f:=true) (x':=Filter_.z) h7 pl188 ti188 Filter_.zr rfl rfl rfl .nil (λ u6 h8=>?_)))
  refine op (OpS.storeB (f':=true) h8 .z PA.z Put.id ty188 rfl rfl rfl (V.at .z) (.inl rfl) (λ w5 h9=>?_))
  refine ga rfl (nil ?_)
  obtain ⟨u7,hu1,h10⟩:=res_box h9 .z ty188
  refine Run.retP rfl (.cell rfl hu1 (.tmp rfl .nil)) ?_
  cases hF
  exact Post.mk' ⟨u7,rfl,rfl,rfl,rfl⟩ (h10.picks .nil) (.val (V.at .z) .nil)
 refine Run.skip (sr (op (OpS.fbox (o3:=0) h7 (.s .z) PA.z fa188_0 rfl rfl rfl rfl ?_)))
 refine op (OpS.loadB h7 (.s .z) PA.a (Get.fld Filter_.f0) ty24 rfl rfl rfl (λ u8 h11=>?_))
 obtain ⟨y2,e3,hF⟩:=bindP_use hF
 refine op (OpS.callP h11 Tryz.func113 rfl rfl rfl rfl (vs:=[u8]) rfl (slices_Clone_byte_byte_ok e3) (.cons (f:=false) (V.at .z) .nil) ?_)
 rintro u9 w6 _ _ _ ⟨_,rfl,rfl,rfl,rfl⟩ h12
 have h13:=h12 rfl rfl
 simp only [ca,na] at h13
 refine op (OpS.buildC (f:=true) (r:=Filter_.rep) (x:=Filter_.z) (r':=(Rep.iso (λ s:Filter_=>(s.Window,s.Missing,())) (Rep.prod (Rep.raw (α:=List Int) u9) (Rep.prod (Rep.int .i64) Rep.unit)))) (x':=(⟨[],0⟩:Filter_)) h13 pl188 ti188 Filter_.zr rfl rfl rfl (.cons (Rep.raw u9) Filter_.rep (Rep.iso (λ s:Filter_=>(s.Window,s.Missing,())) (Rep.prod (Rep.raw (α:=List Int) u9) (Rep.prod (Rep.int .i64) Rep.unit))) Filter_.z (⟨[],0⟩:Filter_) (Chg.iso _ (Chg.here (Chg.id (by rfl)))) rfl rfl (V.raw (f:=true) (St.own1 h13 .z) []) .nil) (λ u10 h14=>?_))
 have h15:=St.nil 5 (Rep.int .u8) h14
 refine op (OpS.alloc (r:=RqB2) h15 ti188 (Zr.iso (y:=Filter_.z) _ (Zr.of (Zr.prod (Zr.raw rfl ([]:List Int)) (Zr.prod (Zr.int .i64 0) Zr.unit)) (by rfl))) rfl rfl (λ u11 w7 h16=>?_))
 refine op (OpS.storeC (f':=true) (fr:=(Rep.iso (λ s:Filter_=>(s.Window,s.Missing,())) (Rep.prod (Rep.raw (α:=List Int) u9) (Rep.prod (Rep.int .i64) Rep.unit)))) (r':=(Rep.iso (λ s:Filter_=>(s.Window,s.Missing,())) (Rep.prod (Rep.raw (α:=List Int) u9) (Rep.prod (Rep.int .i64) Rep.unit)))) (x':=(⟨[],0⟩:Filter_)) h16 .z PA.z (Chg.id (by rfl)) (Ty.like ty188 (by rfl) (by rfl)) rfl rfl rfl (V.at .z) (.inl rfl) (λ w8 h17=>?_))
 refine nil (Run.seq (sr (gm rfl (nil ?_))))
 refine Run.ite rfl hF (λ e4 hF=>?_) (λ e4 hF=>?_)
 ·refine sr (op (OpS.fbox (o3:=0) h17 .z PA.z fa188_0 rfl rfl rfl rfl ?_))
  refine op (OpS.loadR h17 .z PA.a (GetS.ok (GetS.iso _ (GetS.here GetS.id))) ty24 rfl rfl rfl rfl rfl ?_)
  refine gm rfl (op (OpS.lit (r:=(Rep.int .u8)) (f:=true) h17 Tryz.underlying24 ti5 rfl rfl rfl rfl rfl (.cons rfl V.int .nil) rfl rfl (λ u12 w9 h18=>?_)))
  obtain ⟨x1,e5,hF⟩:=bindP_use hF
  refine op (OpS.app (f':=true) h18 (.s (.s .z)) Tryz.underlying24 ti5 rfl rfl rfl rfl rfl rfl rfl (V.at .z) (.inr Pure.int) e5 (λ u13 w10 h19=>?_))
  refine op (OpS.fbox (o3:=0) h19 (.s .z) PA.z fa188_0 rfl rfl rfl rfl ?_)
  refine op (OpS.storeC (f':=true) (fr:=(Rep.raw u13)) (r':=(Rep.iso (λ s:Filter_=>(s.Window,s.Missing,())) (Rep.prod (Rep.raw (α:=List Int) u13) (Rep.prod (Rep.int .i64) Rep.unit)))) (x':=(⟨[],0⟩:Filter_)) h19 (.s .z) PA.a (Chg.iso _ (Chg.here (Chg.id (by rfl)))) (Ty.like ty24 (by rfl) (by rfl)) rfl rfl rfl (V.raw (f:=true) (St.own1 h19 .z) ([])) (.inl rfl) (λ w11 h20=>?_))
  refine nil (Run.seq (sr (op (OpS.fbox (o3:=0) h20 .z PA.z fa188_0 rfl rfl rfl rfl ?_))))
  refine op (OpS.loadR h20 .z PA.a (GetS.ok (GetS.iso _ (GetS.here GetS.id))) ty24 rfl rfl rfl rfl rfl ?_)
  refine op (OpS.lenO h20 (.s .z) Tryz.underlying24 rfl rfl rfl ?_)
  refine op (OpS.fbox (o3:=27) h20 (.s (.s (.s (.s (.s .z))))) PA.z fa74_14 rfl rfl rfl rfl ?_)
  refine op (OpS.loadBi h20 (.s (.s (.s (.s (.s .z))))) PA.a (Get.fld Sensor_.f14) ty3 rfl rfl rfl ?_)
  refine gb rfl (nil ?_)
  refine Run.join (σ:=Filter_) (λ s_ L_ w_=>L_=[(8,u3),(10,u11)]∧St e w_ [] [(true,.box 188 Filter_.rep u3 Filter_.z),(true,.box 188 Filter_.rep u11 s_)]) hF (λ s1 _ w12 hI hF=>?_) (λ j1 hj1 hF=>?_)
  ·obtain ⟨rfl,h21⟩:=hI
   refine sr (op (OpS.loadB h21 (.s .z) PA.z Get.id ty188 rfl rfl rfl (λ u14 h22=>?_)))
   refine op (OpS.storeB (f':=true) h22 .z PA.z Put.id ty188 rfl rfl rfl (V.at .z) (.inl rfl) (λ w13 h23=>?_))
   refine ga rfl (nil ?_)
   obtain ⟨u15,hu2,h24⟩:=res_box h23 .z ty188
   refine Run.retP rfl (.cell rfl hu2 (.tmp rfl .nil)) ?_
   cases hF
   exact Post.mk' ⟨u15,rfl,rfl,rfl,rfl⟩ (h24.picks .nil) (.val (V.at .z) .nil)
  refine Run.ite rfl hF (λ e6 hF=>?_) (λ e6 hF=>?_)
  ·refine Run.reg (op (OpS.fbox (o3:=0) h20 .z PA.z fa188_0 rfl rfl rfl rfl ?_))
   refine op (OpS.loadR h20 .z PA.a (GetS.ok (GetS.iso _ (GetS.here GetS.id))) ty24 rfl rfl rfl rfl rfl ?_)
   have h25:=(h20.pick (.s .z)).freeze
   have h26:=h25.pick .z
   have h27:=St.boxJ (r':=Filter_.rep) (x':=(⟨x1,0⟩:Filter_)) h26 (λ _ _ hs_=>(Jn.iso _ (Jn.prod (Jn.raw ((V.at .z) _ _ hs_) rfl) Jn.refl)))
   obtain ⟨x2,e7,hF⟩:=bindP_use hF
   refine op (OpS.sub h27 Tryz.underlying24 ty5 rfl rfl rfl rfl rfl (V.at .z) e7 (λ u16 h28=>?_))
   refine op (OpS.fbox (o3:=0) h28 .z PA.z fa188_0 rfl rfl rfl rfl ?_)
   refine op (OpS.storeB (f':=true) h28 .z PA.a (Put.fld Filter_.f0) ty24 rfl rfl rfl (V.at .z) (.inl rfl) (λ w14 h29=>?_))
   refine nil (Run.slim [(10,u11),(8,u3)] ⟨rfl,rfl,trivial⟩ ?_)
   refine Run.slim [(8,u3),(10,u11)] ⟨rfl,rfl,trivial⟩ ?_
   exact hj1 ((⟨x2,0⟩:Filter_)) _ _ ⟨rfl,(h29.facts .nil).picks (.cons (.s (.s .z)) (.cons .z .nil))⟩ hF
  refine Run.skip ?_
  have h30:=(h20.pick (.s .z)).freeze
  have h31:=h30.pick .z
  have h32:=St.boxJ (r':=Filter_.rep) (x':=(⟨x1,0⟩:Filter_)) h31 (λ _ _ hs_=>(Jn.iso _ (Jn.prod (Jn.raw ((V.at .z) _ _ hs_) rfl) Jn.refl)))
  refine Run.slim [(8,u3),(10,u11)] ⟨rfl,rfl,trivial⟩ ?_
  exact hj1 ((⟨x1,0⟩:Filter_)) _ _ ⟨rfl,(h32.facts .nil).picks (.cons (.s (.s .z)) (.cons .z .nil))⟩ hF
 refine Run.skip (sr (op (OpS.fbox (o3:=1) h17 (.s (.s (.s (.s .z)))) PA.z fa188_1 rfl rfl rfl rfl ?_)))
 refine op (OpS.loadBi h17 (.s (.s (.s (.s .z)))) PA.a (Get.fld Filter_.f1) ty3 rfl rfl rfl ?_)
 refine gb rfl (op (OpS.mini rfl rfl rfl rfl ?_))
 refine op (OpS.fbox (o3:=1) h17 .z PA.z fa188_1 rfl rfl rfl rfl ?_)
 refine op (OpS.storeC (f':=true) (fr:=(Rep.int .i64)) (r':=(Rep.iso (λ s:Filter_=>(s.Window,s.Missing,())) (Rep.prod (Rep.raw (α:=List Int) u9) (Rep.prod (Rep.int .i64) Rep.unit)))) (x':=(⟨[],(min (IntKind.i64.wrap (a1.Missing+1)) 3)⟩:Filter_)) h17 .z PA.a (Chg.iso _ (Chg.there (Chg.here (Chg.id (by rfl))))) ty3 rfl rfl rfl V.int (.inl rfl) (λ w15 h33=>?_))
 refine nil (Run.seq (sr (op (OpS.fbox (o3:=1) h33 .z PA.z fa188_1 rfl rfl rfl rfl ?_))))
 refine op (OpS.loadBi h33 .z PA.a (GetS.ok (GetS.iso _ (GetS.there (GetS.here GetS.id)))) ty3 rfl rfl rfl ?_)
 refine gb rfl (nil ?_)
 refine Run.ite rfl hF (λ e8 hF=>?_) (λ e8 hF=>?_)
 ·refine Run.reg (op (OpS.fbox (o3:=0) h33 .z PA.z fa188_0 rfl rfl rfl rfl ?_))
  have h34:=St.nil 5 (Rep.int .u8) h33
  refine op (OpS.storeC (f':=true) (fr:=(Rep.raw (.slice none 0 0))) (r':=RqB2) (x':=(⟨[],(min (IntKind.i64.wrap (a1.Missing+1)) 3)⟩:Filter_)) h34 (.s .z) PA.a (Chg.iso _ (Chg.here (Chg.id (by rfl)))) (Ty.like ty24 (by rfl) (by rfl)) rfl rfl rfl (V.raw (f:=true) (St.own1 h34 .z) ([])) (.inl rfl) (λ w16 h35=>?_))
  refine nil (sr (op (OpS.loadB (fr:=RqB2) h35 .z PA.z (GetS.ok GetS.id) (Ty.like ty188 (by rfl) (by rfl)) rfl rfl rfl (λ u17 h36=>?_))))
  refine op (OpS.storeC (f':=true) (fr:=RqB2) (r':=RqB2) (x':=(⟨[],(min (IntKind.i64.wrap (a1.Missing+1)) 3)⟩:Filter_)) h36 (.s (.s (.s (.s .z)))) PA.z (Chg.id (by rfl)) (Ty.like ty188 (by rfl) (by rfl)) rfl rfl rfl (V.at .z) (.inl rfl) (λ w17 h37=>?_))
  refine ga rfl (nil ?_)
  obtain ⟨u18,hu3,h38⟩:=res_box h37 .z (Ty.like ty188 (by rfl) (by rfl))
  have h39:=(h38.pick (.s (.s .z))).freeze
  have h40:=h39.pick .z
  have h41:=St.boxJ (r':=Filter_.rep) (x':=(⟨[],(min (IntKind.i64.wrap (a1.Missing+1)) 3)⟩:Filter_)) h40 (λ _ _ hs_=>(Jn.iso _ (Jn.prod (Jn.raw ((V.at .z) _ _ hs_) rfl) Jn.refl)))
  have h42:=h41.pick (.s .z)
  have h43:=St.boxJ (r':=Filter_.rep) (x':=(⟨[],(min (IntKind.i64.wrap (a1.Missing+1)) 3)⟩:Filter_)) h42 (λ _ _ hs_=>(Jn.iso _ (Jn.prod (Jn.raw ((V.at .z) _ _ hs_) rfl) Jn.refl)))
  have h44:=St.addV (f:=true) (r:=Filter_.rep) (x:=(⟨[],(min (IntKind.i64.wrap (a1.Missing+1)) 3)⟩:Filter_)) h43 (V.jn (r:=RqB2) (x:=(⟨[],(min (IntKind.i64.wrap (a1.Missing+1)) 3)⟩:Filter_)) (V.at (.s .z)) rfl (λ _ _ hs_=>(Jn.iso _ (Jn.prod (Jn.raw ((V.at .z) _ _ hs_) rfl) Jn.refl))))
  refine Run.retP rfl (.cell rfl hu3 (.tmp rfl .nil)) ?_
  cases hF
  exact Post.mk' ⟨u18,rfl,rfl,rfl,rfl⟩ (h44.picks .nil) (.val (V.at .z) .nil)
 refine Run.skip (sr (op (OpS.loadB (fr:=(Rep.iso (λ s:Filter_=>(s.Window,s.Missing,())) (Rep.prod (Rep.raw (α:=List Int) u9) (Rep.prod (Rep.int .i64) Rep.unit)))) h33 .z PA.z (GetS.ok GetS.id) (Ty.like ty188 (by rfl) (by rfl)) rfl rfl rfl (λ u19 h45=>?_))))
 refine op (OpS.storeC (f':=true) (fr:=(Rep.iso (λ s:Filter_=>(s.Window,s.Missing,())) (Rep.prod (Rep.raw (α:=List Int) u9) (Rep.prod (Rep.int .i64) Rep.unit)))) (r':=(Rep.iso (λ s:Filter_=>(s.Window,s.Missing,())) (Rep.prod (Rep.raw (α:=List Int) u9) (Rep.prod (Rep.int .i64) Rep.unit)))) (x':=(⟨[],(min (IntKind.i64.wrap (a1.Missing+1)) 3)⟩:Filter_)) h45 (.s (.s (.s .z))) PA.z (Chg.id (by rfl)) (Ty.like ty188 (by rfl) (by rfl)) rfl rfl rfl (V.at .z) (.inl rfl) (λ w18 h46=>?_))
 refine ga rfl (nil ?_)
 obtain ⟨u20,hu4,h47⟩:=res_box h46 .z (Ty.like ty188 (by rfl) (by rfl))
 have h48:=(h47.pick (.s (.s (.s .z)))).freeze
 have h49:=h48.pick .z
 have h50:=St.boxJ (r':=Filter_.rep) (x':=(⟨y2,(min (IntKind.i64.wrap (a1.Missing+1)) 3)⟩:Filter_)) h49 (λ _ _ hs_=>(Jn.iso _ (Jn.prod (Jn.raw ((V.at .z) _ _ hs_) rfl) Jn.refl)))
 have h51:=h50.pick (.s .z)
 have h52:=St.boxJ (r':=Filter_.rep) (x':=(⟨y2,(min (IntKind.i64.wrap (a1.Missing+1)) 3)⟩:Filter_)) h51 (λ _ _ hs_=>(Jn.iso _ (Jn.prod (Jn.raw ((V.at .z) _ _ hs_) rfl) Jn.refl)))
 have h53:=St.addV (f:=true) (r:=Filter_.rep) (x:=(⟨y2,(min (IntKind.i64.wrap (a1.Missing+1)) 3)⟩:Filter_)) h52 (V.jn (r:=(Rep.iso (λ s:Filter_=>(s.Window,s.Missing,())) (Rep.prod (Rep.raw (α:=List Int) u9) (Rep.prod (Rep.int .i64) Rep.unit)))) (x:=(⟨[],(min (IntKind.i64.wrap (a1.Missing+1)) 3)⟩:Filter_)) (V.at (.s .z)) rfl (λ _ _ hs_=>(Jn.iso _ (Jn.prod (Jn.raw ((V.at .z) _ _ hs_) rfl) Jn.refl))))
 refine Run.retP rfl (.cell rfl hu4 (.tmp rfl .nil)) ?_
 cases hF
 exact Post.mk' ⟨u20,rfl,rfl,rfl,rfl⟩ (h53.picks .nil) (.val (V.at .z) .nil)
theorem slices_Values_uint8_uint8_ok {fuel:Nat} {a0:List Int} {y:((List Int))} (hF:slices_Values_uint8_uint8 fuel a0=some y) {w:World} {v0:Value} :
  Spec Tryz.prog 164 [v0].toArray w [(false,.val (Rep.slice (Rep.int .u8)) v0 a0)] [] (λ v Γr Ωr Ωo=>∃ u0_0:Value,v=.func (.func 215) #[] #[u0_0]∧Γr=[]∧Ωr=[(false,.box 24 (Rep.slice (Rep.int .u8)) u0_0 y)]∧Ωo=[]):=by
 refine Spec.of (L:=[(0,v0)]) Tryz.func164 rfl ⟨rfl,trivial⟩ rfl (λ e h=>?_)
 unfold slices_Values_uint8_uint8 at hF
 refine sr (op (OpS.boxF h rfl rfl rfl (V.at .z) (λ u1 w1 h1=>?_)))
 refine ga rfl (nil (sr (op (OpS.mkf (fl:=[]) (cl:=[u1]) rfl rfl rfl rfl ?_))))
 refine ga rfl (nil (Run.retP rfl (.tmp rfl .nil) ?_))
 cases hF
 exact Post.mk' ⟨u1,rfl,rfl,rfl,rfl⟩ (h1.picks (.cons .z .nil)) .nil
theorem cmp_Compare_int_ok {fuel:Nat} {a0:Int} {a1:Int} {y:Int} (hF:cmp_Compare_int fuel a0 a1=some y) {w:World} :
  Spec Tryz.prog 166 [.int .i64 a0,.int .i64 a1].toArray w [] [] (λ v Γr Ωr Ωo=>v=.int .i64 y∧Γr=[]∧Ωr=[]∧Ωo=[]):=by
 refine Spec.of (L:=[(0,.int .i64 a0),(1,.int .i64 a1)]) Tryz.func166 rfl ⟨rfl,rfl,trivial⟩ rfl (λ e h=>?_)
 unfold cmp_Compare_int at hF
 refine sr (ga rfl (nil (sr (gm rfl ?_))))
 obtain ⟨y1,e1,hF⟩:=bindP_use hF
 refine op (OpS.callP h Tryz.func216 rfl rfl rfl rfl (vs:=[.int .i64 a0]) rfl (cmp_isNaN_int_ok e1) .nil ?_)
 rintro _ w1 _ _ _ ⟨rfl,rfl,rfl,rfl⟩ h1
 have h2:=h1 rfl rfl
 simp only [ca,na] at h2
 refine ga rfl (nil (sr (gm rfl ?_)))
 obtain ⟨y2,e2,hF⟩:=bindP_use hF
 refine op (OpS.callP h2 Tryz.func216 rfl rfl rfl rfl (vs:=[.int .i64 a1]) rfl (cmp_isNaN_int_ok e2) .nil ?_)
 rintro _ w2 _ _ _ ⟨rfl,rfl,rfl,rfl⟩ h3
 have h4:=h3 rfl rfl
 simp only [ca,na] at h4
 refine ga rfl (nil (Run.seq (sr (gm rfl (nil ?_)))))
 refine Run.ite rfl hF (λ e3 hF=>?_) (λ e3 hF=>?_)
 ·refine Run.seq (sr (gm rfl (nil ?_)))
  refine Run.ite rfl hF (λ e4 hF=>?_) (λ e4 hF=>?_)
  ·refine sr (ga rfl (nil (Run.retP rfl (.tmp rfl .nil) ?_)))
   cases hF
   exact Post.mk' ⟨rfl,rfl,rfl,rfl⟩ (h4.picks .nil) .nil
  refine Run.skip (sr (ga rfl (nil (Run.retP rfl (.tmp rfl .nil) ?_))))
  cases hF
  exact Post.mk' ⟨rfl,rfl,rfl,rfl⟩ (h4.picks .nil) .nil
 refine Run.skip (Run.seq (sr (gm rfl (nil ?_))))
 refine Run.ite rfl hF (λ e5 hF=>?_) (λ e5 hF=>?_)
 ·refine sr (ga rfl (nil (Run.retP rfl (.tmp rfl .nil) ?_)))
  cases hF
  exact Post.mk' ⟨rfl,rfl,rfl,rfl⟩ (h4.picks .nil) .nil
 refine Run.skip (Run.seq (sr (gm rfl (gm rfl (gb rfl (nil ?_))))))
 refine Run.ite rfl hF (λ e6 hF=>?_) (λ e6 hF=>?_)
 ·refine sr (ga rfl (nil (Run.retP rfl (.tmp rfl .nil) ?_)))
  cases hF
  exact Post.mk' ⟨rfl,rfl,rfl,rfl⟩ (h4.picks .nil) .nil
 refine Run.skip (Run.seq (sr (gm rfl (gm rfl (gb rfl (nil ?_))))))
 refine Run.ite rfl hF (λ e7 hF=>?_) (λ e7 hF=>?_)
 ·refine sr (ga rfl (nil (Run.retP rfl (.tmp rfl .nil) ?_)))
  cases hF
  exact Post.mk' ⟨rfl,rfl,rfl,rfl⟩ (h4.picks .nil) .nil
 refine Run.skip (sr (ga rfl (nil (Run.retP rfl (.tmp rfl .nil) ?_))))
 cases hF
 exact Post.mk' ⟨rfl,rfl,rfl,rfl⟩ (h4.picks .nil) .nil
set_option maxRecDepth 20000 in
theorem bits_Len64_ok {fuel:Nat} {a0:Int} {y:Int} (hF:bits_Len64 fuel a0=some y) {w:World} :
  Spec Tryz.prog 262 [.int .u64 a0].toArray w [] [] (λ v Γr Ωr Ωo=>v=.int .i64 y∧Γr=[]∧Ωr=[]∧Ωo=[]):=by
 refine Spec.of (L:=[(0,.int .u64 a0)]) Tryz.func262 rfl ⟨rfl,trivial⟩ rfl (λ e h=>?_)
 unfold bits_Len64 at hF
 refine sr (ga rfl (nil (Run.seq (sr (gm rfl (gb rfl (nil ?_)))))))
 refine Run.join (σ:=(Int×Int)) (λ s_ L_ w_=>L_=[(0,.int .u64 s_.1),(2,.int .i64 s_.2)]∧St e w_ [] []) hF (λ s1 _ w1 hI hF=>?_) (λ j1 hj1 hF=>?_)
 ·obtain ⟨rfl,h1⟩:=hI
  refine Run.seq (sr (gm rfl (gb rfl (nil ?_))))
  refine Run.join (σ:=(Int×Int)) (λ s_ L_ w_=>L_=[(0,.int .u64 s_.1),(2,.int .i64 s_.2)]∧St e w_ [] []) hF (λ s2 _ w2 hI hF=>?_) (λ j2 hj2 hF=>?_)
  ·obtain ⟨rfl,h2⟩:=hI
   refine Run.seq (sr (gm rfl (gb rfl (nil ?_))))
   refine Run.ite rfl hF (λ e1 hF=>?_) (λ e1 hF=>?_)
   ·refine sr (gm rfl (op (OpS.shr rfl rfl rfl rfl (by decide) ?_)))
    refine ga rfl (nil (Run.reg (gm rfl (gb rfl (ga rfl ?_)))))
    obtain ⟨x1,e2,hF⟩:=letP_use hF
    refine RunL.name e2 ?_
    refine nil (sr (gm rfl (gm rfl (op (OpS.conv Tryz.underlying328 Tryz.underlying5 rfl rfl rfl ?_)))))
    obtain ⟨x2,e3,hF⟩:=bindP_use hF
    refine op (OpS.selem h2 Tryz.underlying9 rfl rfl rfl rfl (V.str (f:=true)) e3 ?_)
    refine op (OpS.conv Tryz.underlying5 Tryz.underlying3 rfl rfl rfl ?_)
    refine gb rfl (ga rfl ?_)
    obtain ⟨x3,e4,hF⟩:=letP_use hF
    refine RunL.name e4 ?_
    refine nil (Run.retP rfl (.tmp rfl .nil) ?_)
    cases hF
    exact Post.mk' ⟨rfl,rfl,rfl,rfl⟩ (h2.picks .nil) .nil
   refine Run.skip (sr (gm rfl (gm rfl (op (OpS.conv Tryz.underlying328 Tryz.underlying5 rfl rfl rfl ?_)))))
   obtain ⟨x4,e5,hF⟩:=bindP_use hF
   refine op (OpS.selem h2 Tryz.underlying9 rfl rfl rfl rfl (V.str (f:=true)) e5 ?_)
   refine op (OpS.conv Tryz.underlying5 Tryz.underlying3 rfl rfl rfl ?_)
   refine gb rfl (ga rfl ?_)
   obtain ⟨x5,e6,hF⟩:=letP_use hF
   refine RunL.name e6 ?_
   refine nil (Run.retP rfl (.tmp rfl .nil) ?_)
   cases hF
   exact Post.mk' ⟨rfl,rfl,rfl,rfl⟩ (h2.picks .nil) .nil
  refine Run.ite rfl hF (λ e7 hF=>?_) (λ e7 hF=>?_)
  ·refine sr (gm rfl (op (OpS.shr rfl rfl rfl rfl (by decide) ?_)))
   refine ga rfl (nil (Run.reg (gm rfl (gb rfl (ga rfl ?_)))))
   obtain ⟨x6,e8,hF⟩:=letP_use hF
   refine RunL.name e8 ?_
   refine nil (Run.slim [(0,.int .u64 (bShr .u64 s1.1 16)),(2,.int .i64 x6)] ⟨rfl,rfl,trivial⟩ ?_)
   exact hj2 ((bShr .u64 s1.1 16),x6) _ _ ⟨rfl,(h1.facts .nil).picks .nil⟩ hF
  refine Run.skip (Run.slim [(0,.int .u64 s1.1),(2,.int .i64 s1.2)] ⟨rfl,rfl,trivial⟩ ?_)
  exact hj2 (s1.1,s1.2) _ _ ⟨rfl,(h1.facts .nil).picks .nil⟩ hF
 refine Run.ite rfl hF (λ e9 hF=>?_) (λ e9 hF=>?_)
 ·refine sr (gm rfl (op (OpS.shr rfl rfl rfl rfl (by decide) ?_)))
  refine ga rfl (nil (Run.reg (ga rfl (nil (Run.slim [(0,.int .u64 (bShr .u64 a0 32)),(2,.int .i64 32)] ⟨rfl,rfl,trivial⟩ ?_)))))
  exact hj1 ((bShr .u64 a0 32),32) _ _ ⟨rfl,(h.facts .nil).picks .nil⟩ hF
 refine Run.skip (Run.slim [(0,.int .u64 a0),(2,.int .i64 0)] ⟨rfl,rfl,trivial⟩ ?_)
 exact hj1 (a0,0) _ _ ⟨rfl,(h.facts .nil).picks .nil⟩ hF
theorem bits_Len_ok {fuel:Nat} {a0:Int} {y:Int} (hF:bits_Len fuel a0=some y) {w:World} :
  Spec Tryz.prog 246 [.int .u64 a0].toArray w [] [] (λ v Γr Ωr Ωo=>v=.int .i64 y∧Γr=[]∧Ωr=[]∧Ωo=[]):=by
 refine Spec.of (L:=[(0,.int .u64 a0)]) Tryz.func246 rfl ⟨rfl,trivial⟩ rfl (λ e h=>?_)
 unfold bits_Len at hF
 refine sr (ga rfl (nil (Run.seq (Run.condF rfl ?_))))
 refine Run.skip (sr (gm rfl ?_))
 obtain ⟨y1,e1,hF⟩:=bindP_use hF
 refine op (OpS.callP h Tryz.func262 rfl rfl rfl rfl (vs:=[.int .u64 a0]) rfl (bits_Len64_ok e1) .nil ?_)
 rintro _ w1 _ _ _ ⟨rfl,rfl,rfl,rfl⟩ h1
 have h2:=h1 rfl rfl
 simp only [ca,na] at h2
 refine ga rfl (nil (Run.retP rfl (.tmp rfl .nil) ?_))
 cases hF
 exact Post.mk' ⟨rfl,rfl,rfl,rfl⟩ (h2.picks .nil) .nil
theorem slices_Values_uint8_uint8_1_2_ok {σ:Type} {fuel:Nat} {bd_:σ→Int→Option σ} {s_:σ} {a1:List Int} {y:σ} (hF:slices_Values_uint8_uint8_1_2 fuel bd_ s_ a1=some y) {w:World} {v1:Value} {l_:Nat} {I_:σ→HAtom} (hY_:YieldOK Tryz.prog l_ (Rep.int .u8) I_ bd_) :
  Spec Tryz.prog 215 [.func (.yield l_) #[] #[],v1].toArray w [(false,.ptr (Rep.slice (Rep.int .u8)) v1 a1)] [(false,I_ s_)] (λ v Γr Ωr Ωo=>v=.tuple #[]∧Γr=[]∧Ωr=[]∧Ωo=[(false,I_ y)]):=by
 refine Spec.of (L:=[(0,.func (.yield l_) #[] #[]),(1,v1)]) Tryz.func215 rfl ⟨rfl,rfl,trivial⟩ rfl (λ e h=>?_)
 unfold slices_Values_uint8_uint8_1_2 at hF
 refine sr (op (OpS.load h ty24 rfl rfl rfl .z (λ u1 h1=>?_)))
 refine op (OpS.len h1 Tryz.underlying24 rfl rfl rfl (V.at .z) ?_)
 refine gm rfl (nil (Run.block (Run.slim [(0,.func (.yield l_) #[] #[]),(5,u1),(6,.int .i64 (a1.length:Int)),(7,.int .i64 0)] ⟨rfl,rfl,rfl,rfl,trivial⟩ ?_)))
 refine Run.loopP (σ:=(Int×σ)) (λ s_ L_ w_=>L_=[(0,.func (.yield l_) #[] #[]),(5,u1),(6,.int .i64 (a1.length:Int)),(7,.int .i64 s_.1)]∧St e w_ [(false,.val (Rep.slice (Rep.int .u8)) u1 a1)] [(false,I_ s_.2)]) hF ⟨rfl,(h1.facts (.atm .z .nil)).picks (.cons .z .nil)⟩ (λ k1 hk1 s1 _ w1 hI hF=>?_)
 obtain ⟨rfl,h2⟩:=hI
 refine sr (gb rfl (nil (Run.seq ?_)))
 refine Run.ite rfl hF (λ e1 hF=>?_) (λ e1 hF=>?_)
 ·refine Run.skip (Run.seq (Run.block (sr ?_)))
  obtain ⟨x1,e2,hF⟩:=bindP_use hF
  refine op (OpS.iptr h2 Tryz.underlying24 ty5 rfl rfl rfl rfl (V.at .z) e2 (λ u2 h3=>?_))
  refine op (OpS.loadi h3 ty5 rfl rfl rfl .z ?_)
  refine ga rfl (nil (sr (gm rfl (gm rfl ?_))))
  obtain ⟨y1,e3,hF⟩:=bindP_use hF
  refine op (OpS.yield (f:=true) h3 .z hY_ e3 rfl rfl rfl rfl V.int (λ w2 h4=>?_))
  refine op (OpS.not rfl rfl rfl ?_)
  refine nil (Run.condF rfl ?_)
  refine Run.skip (Run.endBlock (Run.reg (gb rfl (gm rfl (nil (Run.slim [(0,.func (.yield l_) #[] #[]),(5,u1),(6,.int .i64 (a1.length:Int)),(7,.int .i64 (IntKind.i64.wrap (s1.1+1)))] ⟨rfl,rfl,rfl,rfl,trivial⟩ ?_))))))
  exact hk1 ((IntKind.i64.wrap (s1.1+1)),y1) _ _ ⟨rfl,(h4.facts (.atm (.s .z) .nil)).picks (.cons .z .nil)⟩ hF
 refine Run.exit rfl ?_
 refine Run.finP rfl .nil ?_
 cases hF
 exact Post.mk' ⟨rfl,rfl,rfl,rfl⟩ (h2.picks (.cons .z .nil)) .nil
theorem slices_AppendSeq_uint8_uint8_slices_Values_uint8_uint8_1_ok {fuel:Nat} {a1_0:List Int} {y:(List Int)} (hF:slices_AppendSeq_uint8_uint8_slices_Values_uint8_uint8_1 fuel a1_0=some y) {w:World} {v1_0:Value} :
  Spec Tryz.prog 244 [.slice none 0 0,.func (.func 215) #[] #[v1_0]].toArray w [(false,.ptr (Rep.slice (Rep.int .u8)) v1_0 a1_0)] [] (λ v Γr Ωr Ωo=>∃ u0:Value,v=u0∧Γr=[]∧Ωr=[(false,(.slice 5 (Rep.int .u8) u0 y))]∧Ωo=[]):=by
 refine Spec.of (L:=[(0,.slice none 0 0),(1,.func (.func 215) #[] #[v1_0])]) Tryz.func244 rfl ⟨rfl,rfl,trivial⟩ rfl (λ e h=>?_)
 unfold slices_AppendSeq_uint8_uint8_slices_Values_uint8_uint8_1 at hF
 refine sr ?_
 have h1:=St.nil 5 (Rep.int .u8) h
 refine op (OpS.box (f':=true) (r:=(Rep.raw (α:=List Int) (.slice none 0 0))) (x:=[]) h1 rfl rfl rfl (V.raw (f:=true) (St.own1 h1 .z) []) (λ u1 w1 h2=>?_))
 refine ga rfl (nil (Run.seq (sr (gm rfl (nil (Run.block ?_))))))
 have h3:=(h2.pick .z).weak
 have h4:=(h3.pick (.s .z)).weak
 refine Run.slim [(6,.func (.func 215) #[] #[v1_0]),(2,u1)] ⟨rfl,rfl,trivial⟩ ?_
 obtain ⟨y1,e1,hF⟩:=bindP_use hF
 refine Run.rangeC (σ:=((List Int))) (r:=(Rep.int .u8)) (λ s_ Γ_ Ω_=>∃ u0_:Value,Γ_=[]∧Ω_=[(false,.box 24 (Rep.raw (α:=List Int) u0_) u1 ([])),(false,.slice 5 (Rep.int .u8) u0_ s_)]) (by rintro _ _ _ ⟨u0_,rfl,rfl⟩;exact ⟨rfl,rfl⟩) rfl rfl rfl Tryz.func215 rfl rfl rfl (λ l_ I_ hY_ w_=>slices_Values_uint8_uint8_1_2_ok e1 hY_) (.ptr .z .nil) (Ω0:=[(false,.box 24 (Rep.raw (α:=List Int) (.slice none 0 0)) u1 ([])),(false,.slice 5 (Rep.int .u8) (.slice none 0 0) ([]))]) (Ω:=[]) (Γ0:=[]) (h4.picks (.cons (.s .z) (.cons .z .nil))) ⟨(.slice none 0 0),rfl,rfl⟩ .nil ?_ ?_
 ·intro l_ q_ e w s1 s1_ x1 v1 Γ_ Ω_ hq_ hX_ hF h5
  obtain ⟨u2,rfl,rfl⟩:=hX_
  refine Run.reg (ga rfl (nil (Run.beginRound rfl (h5.pick .z) hq_ (λ w2 h6=>?_))))
  refine Run.block (Run.reg (op (OpS.loadR h6 (.s .z) PA.z (GetS.ok GetS.id) ty24 rfl rfl rfl rfl rfl ?_)))
  refine gm rfl (op (OpS.lit (r:=(Rep.int .u8)) (f:=false) h6 Tryz.underlying24 ti5 rfl rfl rfl rfl rfl (.cons rfl (V.at .z) .nil) rfl rfl (λ u3 w3 h7=>?_)))
  obtain ⟨x2,e2,hF⟩:=bindP_use hF
  refine op (OpS.app (f':=false) h7 (.s (.s .z)) Tryz.underlying24 ti5 rfl rfl rfl rfl rfl rfl rfl (V.at .z) (.inr Pure.int) e2 (λ u4 w4 h8=>?_))
  refine op (OpS.storeC (f':=false) (fr:=(Rep.raw u4)) (r':=(Rep.raw (α:=List Int) u4)) (x':=[]) h8 (.s (.s .z)) PA.z (Chg.id (by rfl)) (Ty.like ty24 (by rfl) (by rfl)) rfl rfl rfl (V.raw (f:=false) (St.own1 h8 .z) ([])) (.inr rfl) (λ w5 h9=>?_))
  refine nil (Run.endBlock (Run.finR rfl ?_))
  cases hF
  exact ⟨_,_,⟨u4,rfl,rfl⟩,(h9.facts .nil).picks (.cons (.s (.s .z)) (.cons .z (.cons .z .nil)))⟩
 intro D_ w Γ_ Ω_ hX_ h10
 obtain ⟨u5,rfl,rfl⟩:=hX_
 simp only [ca,na] at h10
 refine Run.slim [(2,u1)] ⟨rfl,trivial⟩ ?_
 refine Run.endBlock (sr (op (OpS.loadR h10 .z PA.z (GetS.ok GetS.id) ty24 rfl rfl rfl rfl rfl ?_)))
 refine ga rfl (nil (Run.retPD h10 (.s (.s .z)) rfl (λ w6 h11=>?_)))
 refine ⟨_,(.tmp rfl .nil),?_⟩
 cases hF
 exact Post.mk' ⟨u5,rfl,rfl,rfl,rfl⟩ (h11.picks (.cons (.s .z) .nil)) .nil
theorem slices_Collect_uint8_slices_Values_uint8_uint8_1_ok {fuel:Nat} {a0_0:List Int} {y:(List Int)} (hF:slices_Collect_uint8_slices_Values_uint8_uint8_1 fuel a0_0=some y) {w:World} {v0_0:Value} :
  Spec Tryz.prog 213 [.func (.func 215) #[] #[v0_0]].toArray w [(false,.ptr (Rep.slice (Rep.int .u8)) v0_0 a0_0)] [] (λ v Γr Ωr Ωo=>∃ u0:Value,v=u0∧Γr=[]∧Ωr=[(false,(.slice 5 (Rep.int .u8) u0 y))]∧Ωo=[]):=by
 refine Spec.of (L:=[(0,.func (.func 215) #[] #[v0_0])]) Tryz.func213 rfl ⟨rfl,trivial⟩ rfl (λ e h=>?_)
 unfold slices_Collect_uint8_slices_Values_uint8_uint8_1 at hF
 refine sr (ga rfl (nil (sr (gm rfl ?_))))
 obtain ⟨y1,e1,hF⟩:=bindP_use hF
 have h1:=h.front .nil
 refine op (OpS.callO h1 Tryz.func244 rfl rfl rfl rfl (vs:=[.slice none 0 0,.func (.func 215) #[] #[v0_0]]) rfl (slices_AppendSeq_uint8_uint8_slices_Values_uint8_uint8_1_ok e1) rfl (.ptr .z .nil) ?_)
 rintro u1 w1 _ _ _ ⟨_,rfl,rfl,rfl,rfl⟩ h2
 have h3:=h2
 simp only [ca,na] at h3
 refine ga rfl (nil (Run.retP rfl (.tmp rfl .nil) ?_))
 cases hF
 exact Post.mk' ⟨u1,rfl,rfl,rfl,rfl⟩ (h3.picks (.cons .z .nil)) .nil
set_option maxRecDepth 20000 in
theorem sampling_Reading_1_2_ok {fuel:Nat} {a0:Int} {a1:Int} {a2:Sensor_} {y:Int} (hF:sampling_Reading_1_2 fuel a0 a1 a2=some y) {w:World} {v2:Value} :
  Spec Tryz.prog 165 [.int .u8 a0,.int .u8 a1,v2].toArray w [(false,.ptr Sensor_.rep v2 a2)] [] (λ v Γr Ωr Ωo=>v=.int .i64 y∧Γr=[]∧Ωr=[]∧Ωo=[]):=by
 refine Spec.of (L:=[(0,.int .u8 a0),(1,.int .u8 a1),(2,v2)]) Tryz.func165 rfl ⟨rfl,rfl,rfl,trivial⟩ rfl (λ e h=>?_)
 unfold sampling_Reading_1_2 at hF
 refine sr (ga rfl (nil (Run.seq ?_)))
 obtain ⟨y1,e1,hF⟩:=bindP_use hF
 refine Run.drawV (Ωs:=[]) [.f 6 (λ u_=>[(false,.ptr Conversion_.rep u_ a2.Conversion)]),.f 7 (λ u_=>[(false,.ptr Rep.bool u_ a2.Conversion.Signed)]),.k 8 (.bool a2.Conversion.Signed),.k 9 (.int .u8 a0),.k 10 (.int .i64 y1),.f 11 (λ u_=>[(false,.ptr Conversion_.rep u_ a2.Conversion)]),.f 12 (λ u_=>[(false,.ptr Rep.bool u_ a2.Conversion.Signed)]),.k 13 (.bool a2.Conversion.Signed),.k 14 (.int .u8 a1)] [[],[0],[1],[],[2,3],[],[5],[6],[]] [] [0,1,2,3,4,5,6,7,8] Try_mixed rfl rfl rfl h (.cons ?_ (.cons ?_ (.cons ?_ (.cons ?_ (.cons ?_ (.cons ?_ (.cons ?_ (.cons ?_ (.cons ?_ .nil))))))))) (λ q1 w hq1 h=>?_)
 ·intro q1 w Γx Ωx h
  refine OpS.fptr h fa74_6 Sensor_.f6 rfl rfl rfl .z (λ u h7=>?_)
  exact ⟨u,rfl,trivial,h7⟩
 ·intro q1 w Γx Ωx h
  refine OpS.fptr h fa69_1 Conversion_.f1 rfl rfl rfl .z (λ u h8=>?_)
  exact ⟨u,rfl,trivial,h8⟩
 ·intro q1 w Γx Ωx h
  refine OpS.loadb h ty4 rfl rfl rfl .z ?_
  exact du h
 ·intro q1 w Γx Ωx h
  refine OpS.mv rfl rfl rfl ?_
  exact du h
 ·intro q1 w Γx Ωx h
  refine OpS.callP h Tryz.func51 rfl rfl rfl rfl (vs:=[.bool a2.Conversion.Signed,.int .u8 a0]) rfl (convert_Number_ok e1) .nil ?_
  rintro _ w2 _ _ _ ⟨rfl,rfl,rfl,rfl⟩ h9
  have h10:=h9 rfl rfl
  simp only [ca,na] at h10
  exact ⟨undef,rfl,trivial,h10⟩
 ·intro q1 w Γx Ωx h
  refine OpS.fptr h fa74_6 Sensor_.f6 rfl rfl rfl .z (λ u h11=>?_)
  exact ⟨u,rfl,trivial,h11⟩
 ·intro q1 w Γx Ωx h
  refine OpS.fptr h fa69_1 Conversion_.f1 rfl rfl rfl .z (λ u h12=>?_)
  exact ⟨u,rfl,trivial,h12⟩
 ·intro q1 w Γx Ωx h
  refine OpS.loadb h ty4 rfl rfl rfl .z ?_
  exact du h
 ·intro q1 w Γx Ωx h
  refine OpS.mv rfl rfl rfl ?_
  exact du h
 have h13:=h
 obtain ⟨y2,e2,hF⟩:=bindP_use hF
 refine op (OpS.callP h13 Tryz.func51 rfl rfl rfl rfl (vs:=[.bool a2.Conversion.Signed,.int .u8 a1]) rfl (convert_Number_ok e2) .nil ?_)
 rintro _ w3 _ _ _ ⟨rfl,rfl,rfl,rfl⟩ h14
 have h15:=h14 rfl rfl
 simp only [ca,na] at h15
 obtain ⟨y3,e3,hF⟩:=bindP_use hF
 refine op (OpS.callP h15 Tryz.func166 rfl rfl rfl rfl (vs:=[.int .i64 y1,.int .i64 y2]) rfl (cmp_Compare_int_ok e3) .nil ?_)
 rintro _ w4 _ _ _ ⟨rfl,rfl,rfl,rfl⟩ h16
 have h17:=h16 rfl rfl
 simp only [ca,na] at h17
 refine ga rfl (nil (Run.retP rfl (.tmp rfl .nil) ?_))
 cases hF
 exact Post.mk' ⟨rfl,rfl,rfl,rfl⟩ (h17.picks .nil) .nil
set_option maxRecDepth 20000 in
theorem slices_insertionSortCmpFunc_uint8_sampling_Reading_1_ok {fuel:Nat} {a0:List Int} {a1:Int} {a2:Int} {a3_0:Sensor_} {y:(List Int)} (hF:slices_insertionSortCmpFunc_uint8_sampling_Reading_1 fuel a0 a1 a2 a3_0=some y) {w:World} {v0 v3_0:Value} :
  Spec Tryz.prog 253 [v0,.int .i64 a1,.int .i64 a2,.func (.func 165) #[] #[v3_0]].toArray w [(false,.ptr Sensor_.rep v3_0 a3_0)] [(false,.slice 5 (Rep.int .u8) v0 a0)] (λ v Γr Ωr Ωo=>v=.tuple #[]∧Γr=[]∧Ωr=[]∧Ωo=[(false,.slice 5 (Rep.int .u8) v0 y)]):=by
 refine Spec.of (L:=[(0,v0),(1,.int .i64 a1),(2,.int .i64 a2),(3,.func (.func 165) #[] #[v3_0])]) Tryz.func253 rfl ⟨rfl,rfl,rfl,rfl,trivial⟩ rfl (λ e h=>?_)
 unfold slices_insertionSortCmpFunc_uint8_sampling_Reading_1 at hF
 refine sr (gm rfl (gb rfl (ga rfl ?_)))
 obtain ⟨x1,e1,hF⟩:=letP_use hF
 refine RunL.name e1 ?_
 refine nil (Run.block (Run.slim [(0,v0),(1,.int .i64 a1),(2,.int .i64 a2),(3,.func (.func 165) #[] #[v3_0]),(8,.int .i64 x1)] ⟨rfl,rfl,rfl,rfl,rfl,trivial⟩ ?_))
 refine Run.loopP (σ:=(Int×(List Int))) (λ s_ L_ w_=>L_=[(0,v0),(1,.int .i64 a1),(2,.int .i64 a2),(3,.func (.func 165) #[] #[v3_0]),(8,.int .i64 s_.1)]∧St e w_ [(false,.ptr Sensor_.rep v3_0 a3_0)] [(false,.slice 5 (Rep.int .u8) v0 s_.2)]) hF ⟨rfl,(h.facts (.atm .z .nil)).picks (.cons .z .nil)⟩ (λ k1 hk1 s1 _ w1 hI hF=>?_)
 obtain ⟨rfl,h1⟩:=hI
 refine Run.seq (sr (gm rfl (gm rfl (gb rfl (nil ?_)))))
 refine Run.ite rfl hF (λ e2 hF=>?_) (λ e2 hF=>?_)
 ·refine Run.skip (Run.seq (Run.block (sr (gm rfl (ga rfl (nil (Run.block (Run.slim [(0,v0),(1,.int .i64 a1),(2,.int .i64 a2),(3,.func (.func 165) #[] #[v3_0]),(8,.int .i64 s1.1),(9,.int .i64 s1.1)] ⟨rfl,rfl,rfl,rfl,rfl,rfl,trivial⟩ ?_))))))))
  refine Run.loopP (σ:=(Int×(List Int))) (λ s_ L_ w_=>L_=[(0,v0),(1,.int .i64 a1),(2,.int .i64 a2),(3,.func (.func 165) #[] #[v3_0]),(8,.int .i64 s1.1),(9,.int .i64 s_.1)]∧St e w_ [(false,.ptr Sensor_.rep v3_0 a3_0)] [(false,.slice 5 (Rep.int .u8) v0 s_.2)]) hF ⟨rfl,(h1.facts (.atm .z .nil)).picks (.cons .z .nil)⟩ (λ k2 hk2 s2 _ w2 hI hF=>?_)
  obtain ⟨rfl,h2⟩:=hI
  refine Run.seq (Run.seq ?_)
  refine Run.join (σ:=Bool) (λ s_ L_ w_=>L_=[(0,v0),(1,.int .i64 a1),(2,.int .i64 a2),(3,.func (.func 165) #[] #[v3_0]),(8,.int .i64 s1.1),(9,.int .i64 s2.1),(34,.bool s_)]∧St e w_ [(false,.ptr Sensor_.rep v3_0 a3_0)] [(false,.slice 5 (Rep.int .u8) v0 s2.2)]) hF (λ s3 _ w3 hI hF=>?_) (λ j1 hj1 hF=>?_)
  ·obtain ⟨rfl,h3⟩:=hI
   refine Run.ite rfl hF (λ e3 hF=>?_) (λ e3 hF=>?_)
   ·refine Run.skip (Run.seq (Run.block ?_))
    obtain ⟨x2,e4,hF⟩:=bindP_use hF
    obtain ⟨x3,e5,hF⟩:=bindP_use hF
    obtain ⟨d1,e6,hF⟩:=letP_use hF
    refine Run.drawV (Ωs:=[]) [.k 37 v0,.k 38 (.int .i64 s2.1),.k 39 v0,.k 40 (.int .i64 s2.1),.k 41 (.int .i64 (IntKind.i64.wrap (s2.1-1))),.k 42 v0,.k 43 (.int .i64 s2.1),.k 44 (.int .i64 (IntKind.i64.wrap (s2.1-1))),⟨some 45,some ((padd (sp v0) (((IntKind.i64.wrap (s2.1-1)):Int).toNat*(Rep.int .u8).n))),λ _=>[],λ ds_ u_=>[],[],[(0,[15,8])],none⟩,⟨some 46,some (.int .u8 x2),λ _=>[],λ ds_ u_=>[],[],[(0,[15,9])],none⟩,.k 47 v0,.k 48 (.int .i64 s2.1),⟨some 49,some ((padd (sp v0) ((s2.1:Int).toNat*(Rep.int .u8).n))),λ _=>[],λ ds_ u_=>[],[],[(0,[15,13,12])],none⟩,⟨some 50,some (.int .u8 x3),λ _=>[],λ ds_ u_=>[],[],[(0,[15,13])],none⟩,⟨some 51,some ((padd (sp v0) ((s2.1:Int).toNat*(Rep.int .u8).n))),λ _=>[],λ ds_ u_=>[],[],[(0,[15,14])],none⟩,⟨none,some undef,λ _=>[],λ ds_ u_=>[(false,.slice 5 (Rep.int .u8) v0 d1)],[0],[],none⟩] [[],[],[],[],[3],[],[],[6],[5,7],[8],[],[],[10,11],[12],[0,1],[14,9]] [[(false,.slice 5 (Rep.int .u8) v0 s2.2)]] [1,2,3,4,5,6,7,8,9,10,11,12,13,14,15,16] Try_mixed rfl rfl rfl h3 (.cons ?_ (.cons ?_ (.cons ?_ (.cons ?_ (.cons ?_ (.cons ?_ (.cons ?_ (.cons ?_ (.cons ?_ (.cons ?_ (.cons ?_ (.cons ?_ (.cons ?_ (.cons ?_ (.cons ?_ (.cons ?_ .nil)))))))))))))))) (λ q1 w hq1 h=>?_)
    ·intro q1 w Γx Ωx h
     refine OpS.mv rfl rfl rfl ?_
     exact du h
    ·intro q1 w Γx Ωx h
     refine OpS.mv rfl rfl rfl ?_
     exact du h
    ·intro q1 w Γx Ωx h
     refine OpS.mv rfl rfl rfl ?_
     exact du h
    ·intro q1 w Γx Ωx h
     refine OpS.mv rfl rfl rfl ?_
     exact du h
    ·intro q1 w Γx Ωx h
     refine OpS.bin rfl rfl rfl rfl rfl ?_
     exact du h
    ·intro q1 w Γx Ωx h
     refine OpS.mv rfl rfl rfl ?_
     exact du h
    ·intro q1 w Γx Ωx h
     refine OpS.mv rfl rfl rfl ?_
     exact du h
    ·intro q1 w Γx Ωx h
     refine OpS.bin rfl rfl rfl rfl rfl ?_
     exact du h
    ·intro q1 w Γx Ωx h
     refine OpS.iown h .z Tryz.underlying24 ty5 rfl rfl rfl rfl e4 ?_
     exact du h
    ·intro q1 w Γx Ωx h
     refine OpS.loadOi h .z (idx_ne e4) PA.a (Get.arr e4) ty5 rfl rfl rfl ?_
     exact du h
    ·intro q1 w Γx Ωx h
     refine OpS.mv rfl rfl rfl ?_
     exact du h
    ·intro q1 w Γx Ωx h
     refine OpS.mv rfl rfl rfl ?_
     exact du h
    ·intro q1 w Γx Ωx h
     refine OpS.iown h .z Tryz.underlying24 ty5 rfl rfl rfl rfl e5 ?_
     exact du h
    ·intro q1 w Γx Ωx h
     refine OpS.loadOi h .z (idx_ne e5) PA.a (Get.arr e5) ty5 rfl rfl rfl ?_
     exact du h
    ·intro q1 w Γx Ωx h
     refine OpS.iown h .z Tryz.underlying24 ty5 rfl rfl rfl rfl e5 ?_
     exact du h
    ·intro q1 w Γx Ωx h
     refine OpS.storeO (f':=true) h .z (idx_ne e5) PA.a (Put.of (Put.arr e5) e6) ty5 rfl rfl rfl V.int (.inr rfl) (λ w5 h5=>?_)
     exact ⟨undef,trivial,trivial,h5⟩
    have h6:=h
    obtain ⟨x4,e7,hF⟩:=bindP_use hF
    refine op (OpS.iown h6 .z Tryz.underlying24 ty5 rfl rfl rfl rfl e7 ?_)
    obtain ⟨d2,e8,hF⟩:=letP_use hF
    refine op (OpS.storeO (f':=true) h6 .z (idx_ne e7) PA.a (Put.of (Put.arr e7) e8) ty5 rfl rfl rfl V.int (.inr rfl) (λ w6 h7=>?_))
    refine nil (Run.endBlock (Run.reg (gm rfl (gb rfl (ga rfl ?_)))))
    obtain ⟨x5,e9,hF⟩:=letP_use hF
    refine RunL.name e9 ?_
    refine nil (Run.slim [(0,v0),(1,.int .i64 a1),(2,.int .i64 a2),(3,.func (.func 165) #[] #[v3_0]),(8,.int .i64 s1.1),(9,.int .i64 x5)] ⟨rfl,rfl,rfl,rfl,rfl,rfl,trivial⟩ ?_)
    exact hk2 (x5,d2) _ _ ⟨rfl,(h7.facts (.atm .z .nil)).picks (.cons .z .nil)⟩ hF
   refine Run.exit rfl ?_
   refine Run.endBlock (Run.reg (gm rfl (gb rfl (ga rfl ?_))))
   obtain ⟨x6,e10,hF⟩:=letP_use hF
   refine RunL.name e10 ?_
   refine nil (Run.slim [(0,v0),(1,.int .i64 a1),(2,.int .i64 a2),(3,.func (.func 165) #[] #[v3_0]),(8,.int .i64 x6)] ⟨rfl,rfl,rfl,rfl,rfl,trivial⟩ ?_)
   exact hk1 (x6,s2.2) _ _ ⟨rfl,(h3.facts (.atm .z .nil)).picks (.cons .z .nil)⟩ hF
  obtain ⟨x7,e11,hF⟩:=letP_use hF
  refine iteP_use hF (λ e12 hF=>?_) (λ e12 hF=>?_)
  ·have hG:=hF
   subst e12
   have hF:=hG
   obtain ⟨x8,e13,hF⟩:=bindP_use hF
   obtain ⟨x9,e14,hF⟩:=bindP_use hF
   refine Run.drawV (Ωs:=[]) [.k 18 (.int .i64 s2.1),.k 19 (.int .i64 a1),.k 20 (.bool (decide (s2.1>a1))),.k 21 (.bool true),.k 22 (.func (.func 165) #[] #[v3_0]),.k 23 v0,.k 24 (.int .i64 s2.1),.kr 25 (padd (sp v0) ((s2.1:Int).toNat*(Rep.int .u8).n)) [0],.kr 26 (.int .u8 x8) [0],.k 27 v0,.k 28 (.int .i64 s2.1),.k 29 (.int .i64 (IntKind.i64.wrap (s2.1-1))),.kr 30 (padd (sp v0) (((IntKind.i64.wrap (s2.1-1)):Int).toNat*(Rep.int .u8).n)) [0],.kr 31 (.int .u8 x9) [0]] [[],[],[0,1],[2],[3],[3],[3],[5,6,3],[7,3],[3],[3],[10,3],[9,11,3],[12,3]] [[(false,.slice 5 (Rep.int .u8) v0 s2.2)]] [0,1,2,3,4,5,6,7,8,9,10,11,12,13,14] Try_mixed rfl rfl rfl h2 (.cons ?_ (.cons ?_ (.cons ?_ (.cons ?_ (.cons ?_ (.cons ?_ (.cons ?_ (.cons ?_ (.cons ?_ (.cons ?_ (.cons ?_ (.cons ?_ (.cons ?_ (.cons ?_ .nil)))))))))))))) (λ q2 w hq2 h=>?_)
   ·intro q2 w Γx Ωx h
    refine OpS.mv rfl rfl rfl ?_
    exact du h
   ·intro q2 w Γx Ωx h
    refine OpS.mv rfl rfl rfl ?_
    exact du h
   ·intro q2 w Γx Ωx h
    refine OpS.bin rfl rfl rfl rfl rfl ?_
    exact du h
   ·intro q2 w Γx Ωx h
    refine OpS.mv rfl rfl rfl ?_
    exact ⟨undef,(congrArg (λ z_=>some (Value.bool z_)) e11),trivial,h⟩
   ·intro q2 w Γx Ωx h
    refine OpS.mv rfl rfl rfl ?_
    exact du h
   ·intro q2 w Γx Ωx h
    refine OpS.mv rfl rfl rfl ?_
    exact du h
   ·intro q2 w Γx Ωx h
    refine OpS.mv rfl rfl rfl ?_
    exact du h
   ·intro q2 w Γx Ωx h
    refine OpS.iown h .z Tryz.underlying24 ty5 rfl rfl rfl rfl e13 ?_
    exact du h
   ·intro q2 w Γx Ωx h
    refine OpS.loadOi h .z (idx_ne e13) PA.a (Get.arr e13) ty5 rfl rfl rfl ?_
    exact du h
   ·intro q2 w Γx Ωx h
    refine OpS.mv rfl rfl rfl ?_
    exact du h
   ·intro q2 w Γx Ωx h
    refine OpS.mv rfl rfl rfl ?_
    exact du h
   ·intro q2 w Γx Ωx h
    refine OpS.bin rfl rfl rfl rfl rfl ?_
    exact du h
   ·intro q2 w Γx Ωx h
    refine OpS.iown h .z Tryz.underlying24 ty5 rfl rfl rfl rfl e14 ?_
    exact du h
   ·intro q2 w Γx Ωx h
    refine OpS.loadOi h .z (idx_ne e14) PA.a (Get.arr e14) ty5 rfl rfl rfl ?_
    exact du h
   have h8:=h
   obtain ⟨y1,e15,hF⟩:=bindP_use hF
   refine op (OpS.callPF (fl:=[]) (cl:=[v3_0]) h8 Tryz.func165 rfl rfl rfl rfl rfl (vs:=[.int .u8 x8,.int .u8 x9]) rfl (sampling_Reading_1_2_ok e15) (.ptr .z .nil) ?_)
   rintro _ w7 _ _ _ ⟨rfl,rfl,rfl,rfl⟩ h9
   have h10:=h9 rfl rfl
   simp only [ca,na] at h10
   refine gb rfl (gk rfl (nil (Run.slim [(0,v0),(1,.int .i64 a1),(2,.int .i64 a2),(3,.func (.func 165) #[] #[v3_0]),(8,.int .i64 s1.1),(9,.int .i64 s2.1),(34,.bool (decide (y1<0)))] ⟨rfl,rfl,rfl,rfl,rfl,rfl,rfl,trivial⟩ ?_)))
   exact hj1 (decide (y1<0)) _ _ ⟨rfl,(h10.facts (.atm .z .nil)).picks (.cons .z .nil)⟩ hF
  have hG:=hF
  subst e12
  have hF:=hG
  refine Run.drawV (Ωs:=[]) [.k 18 (.int .i64 s2.1),.k 19 (.int .i64 a1),.k 20 (.bool (decide (s2.1>a1))),.k 21 (.bool false),.k 22 undef,.k 23 undef,.k 24 undef,.k 25 undef,.k 26 undef,.k 27 undef,.k 28 undef,.k 29 undef,.k 30 undef,.k 31 undef] [[],[],[0,1],[2],[3],[3],[3],[3],[3],[3],[3],[3],[3],[3]] [[(false,.slice 5 (Rep.int .u8) v0 s2.2)]] [0,1,2,3,4,5,6,7,8,9,10,11,12,13,14] Try_mixed rfl rfl rfl h2 (.cons ?_ (.cons ?_ (.cons ?_ (.cons ?_ (.cons (dp λ _=>rfl) (.cons (dp λ _=>rfl) (.cons (dp λ _=>rfl) (.cons (dp λ _=>rfl) (.cons (dp λ _=>rfl) (.cons (dp λ _=>rfl) (.cons (dp λ _=>rfl) (.cons (dp λ _=>rfl) (.cons (dp λ _=>rfl) (.cons (dp λ _=>rfl) .nil)))))))))))))) (λ q2 w hq3 h=>?_)
  ·intro q2 w Γx Ωx h
   refine OpS.mv rfl rfl rfl ?_
   exact du h
  ·intro q2 w Γx Ωx h
   refine OpS.mv rfl rfl rfl ?_
   exact du h
  ·intro q2 w Γx Ωx h
   refine OpS.bin rfl rfl rfl rfl rfl ?_
   exact du h
  ·intro q2 w Γx Ωx h
   refine OpS.mv rfl rfl rfl ?_
   exact ⟨undef,(congrArg (λ z_=>some (Value.bool z_)) e11),trivial,h⟩
  have h11:=h
  refine gp rfl (gp rfl (gk rfl (nil (Run.slim [(0,v0),(1,.int .i64 a1),(2,.int .i64 a2),(3,.func (.func 165) #[] #[v3_0]),(8,.int .i64 s1.1),(9,.int .i64 s2.1),(34,.bool false)] ⟨rfl,rfl,rfl,rfl,rfl,rfl,rfl,trivial⟩ ?_))))
  exact hj1 (false) _ _ ⟨rfl,(h11.facts (.atm .z .nil)).picks (.cons .z .nil)⟩ hF
 refine Run.exit rfl ?_
 refine Run.finP rfl .nil ?_
 cases hF
 exact Post.mk' ⟨rfl,rfl,rfl,rfl⟩ (h1.picks (.cons .z .nil)) .nil
theorem slices_pdqsortCmpFunc_uint8_sampling_Reading_1_ok {fuel:Nat} {a0:List Int} {a1:Int} {a2:Int} {a3:Int} {a4_0:Sensor_} {y:(List Int)} (hF:slices_pdqsortCmpFunc_uint8_sampling_Reading_1 fuel a0 a1 a2 a3 a4_0=some y) {w:World} {v0 v4_0:Value} :
  Spec Tryz.prog 245 [v0,.int .i64 a1,.int .i64 a2,.int .i64 a3,.func (.func 165) #[] #[v4_0]].toArray w [(false,.ptr Sensor_.rep v4_0 a4_0)] [(false,.slice 5 (Rep.int .u8) v0 a0)] (λ v Γr Ωr Ωo=>v=.tuple #[]∧Γr=[]∧Ωr=[]∧Ωo=[(false,.slice 5 (Rep.int .u8) v0 y)]):=by
 refine Spec.of (L:=[(0,v0),(1,.int .i64 a1),(2,.int .i64 a2),(3,.int .i64 a3),(4,.func (.func 165) #[] #[v4_0])]) Tryz.func245 rfl ⟨rfl,rfl,rfl,rfl,rfl,trivial⟩ rfl (λ e h=>?_)
 unfold slices_pdqsortCmpFunc_uint8_sampling_Reading_1 at hF
 refine sr (ga rfl (nil (sr (ga rfl (nil (Run.block (Run.slim [(0,v0),(1,.int .i64 a1),(2,.int .i64 a2),(3,.int .i64 a3),(4,.func (.func 165) #[] #[v4_0]),(10,.bool true),(11,.bool true)] ⟨rfl,rfl,rfl,rfl,rfl,rfl,rfl,trivial⟩ ?_)))))))
 refine Run.loopP (σ:=Unit) (λ s_ L_ w_=>L_=[(0,v0),(1,.int .i64 a1),(2,.int .i64 a2),(3,.int .i64 a3),(4,.func (.func 165) #[] #[v4_0]),(10,.bool true),(11,.bool true)]∧St e w_ [(false,.ptr Sensor_.rep v4_0 a4_0)] [(false,.slice 5 (Rep.int .u8) v0 a0)]) hF ⟨rfl,(h.facts (.atm .z .nil)).picks (.cons .z .nil)⟩ (λ k1 hk1 s1 _ w1 hI hF=>?_)
 obtain ⟨rfl,h1⟩:=hI
 refine Run.block (sr (gm rfl (gm rfl (gb rfl (ga rfl ?_)))))
 obtain ⟨x1,e1,hF⟩:=letP_use hF
 refine RunL.name e1 ?_
 refine nil (Run.seq (sr (gm rfl (gb rfl (nil ?_)))))
 refine Run.ite rfl hF (λ e2 hF=>?_) (λ e2 hF=>?_)
 ·refine sr (gm rfl (gm rfl (gm rfl (gm rfl ?_))))
  obtain ⟨y1,e3,hF⟩:=bindP_use hF
  have h2:=h1.front (.cons .z .nil)
  refine op (OpS.callO h2 Tryz.func253 rfl rfl rfl rfl (vs:=[v0,.int .i64 a1,.int .i64 a2,.func (.func 165) #[] #[v4_0]]) rfl (slices_insertionSortCmpFunc_uint8_sampling_Reading_1_ok e3) rfl (.ptr .z .nil) ?_)
  rintro _ w2 _ _ _ ⟨rfl,rfl,rfl,rfl⟩ h3
  have h4:=h3
  simp only [ca,na] at h4
  refine nil (Run.retP rfl .nil ?_)
  cases hF
  exact Post.mk' ⟨rfl,rfl,rfl,rfl⟩ (h4.picks (.cons .z .nil)) .nil
 refine Run.skip (Run.seq (sr (gm rfl (gb rfl (nil ?_)))))
 refine Run.ite rfl hF (λ e4 hF=>?_) (λ e4 hF=>?_)
 ·refine sr (gm rfl (gm rfl (gm rfl (gm rfl ?_))))
  cases hF
 refine Run.skip (Run.seq (sr (gm rfl (op (OpS.not rfl rfl rfl ?_)))))
 refine nil ?_
 refine Run.ite rfl hF (λ e5 hF=>?_) (λ e5 hF=>?_)
 ·refine sr (gm rfl (gm rfl (gm rfl (gm rfl ?_))))
  cases hF
 refine Run.skip (sr (gm rfl (gm rfl (gm rfl (gm rfl ?_)))))
 cases hF
theorem slices_SortFunc_uint8_uint8_sampling_Reading_1_ok {fuel:Nat} {a0:List Int} {a1_0:Sensor_} {y:(List Int)} (hF:slices_SortFunc_uint8_uint8_sampling_Reading_1 fuel a0 a1_0=some y) {w:World} {v0 v1_0:Value} :
  Spec Tryz.prog 214 [v0,.func (.func 165) #[] #[v1_0]].toArray w [(false,.ptr Sensor_.rep v1_0 a1_0)] [(false,.slice 5 (Rep.int .u8) v0 a0)] (λ v Γr Ωr Ωo=>v=.tuple #[]∧Γr=[]∧Ωr=[]∧Ωo=[(false,.slice 5 (Rep.int .u8) v0 y)]):=by
 refine Spec.of (L:=[(0,v0),(1,.func (.func 165) #[] #[v1_0])]) Tryz.func214 rfl ⟨rfl,rfl,trivial⟩ rfl (λ e h=>?_)
 unfold slices_SortFunc_uint8_uint8_sampling_Reading_1 at hF
 refine sr (gm rfl (op (OpS.lenO h .z Tryz.underlying24 rfl rfl rfl ?_)))
 refine ga rfl (nil (Run.reg (gm rfl (gm rfl (gm rfl (op (OpS.conv Tryz.underlying3 Tryz.underlying271 rfl rfl rfl ?_)))))))
 obtain ⟨y1,e1,hF⟩:=bindP_use hF
 refine op (OpS.callP h Tryz.func246 rfl rfl rfl rfl (vs:=[.int .u64 (IntKind.u64.wrap (a0.length:Int))]) rfl (bits_Len_ok e1) .nil ?_)
 rintro _ w1 _ _ _ ⟨rfl,rfl,rfl,rfl⟩ h1
 have h2:=h1 rfl rfl
 simp only [ca,na] at h2
 refine gm rfl ?_
 obtain ⟨y2,e2,hF⟩:=bindP_use hF
 have h3:=h2.front (.cons .z .nil)
 refine op (OpS.callO h3 Tryz.func245 rfl rfl rfl rfl (vs:=[v0,.int .i64 0,.int .i64 (a0.length:Int),.int .i64 y1,.func (.func 165) #[] #[v1_0]]) rfl (slices_pdqsortCmpFunc_uint8_sampling_Reading_1_ok e2) rfl (.ptr .z .nil) ?_)
 rintro _ w2 _ _ _ ⟨rfl,rfl,rfl,rfl⟩ h4
 have h5:=h4
 simp only [ca,na] at h5
 refine nil (Run.finP rfl .nil ?_)
 cases hF
 exact Post.mk' ⟨rfl,rfl,rfl,rfl⟩ (h5.picks (.cons .z .nil)) .nil
theorem slices_SortedFunc_uint8_slices_Values_uint8_uint8_1_sampling_Reading_1_ok {fuel:Nat} {a0_0:List Int} {a1_0:Sensor_} {y:(List Int)} (hF:slices_SortedFunc_uint8_slices_Values_uint8_uint8_1_sampling_Reading_1 fuel a0_0 a1_0=some y) {w:World} {v0_0 v1_0:Value} :
  Spec Tryz.prog 163 [.func (.func 215) #[] #[v0_0],.func (.func 165) #[] #[v1_0]].toArray w [(false,.ptr (Rep.slice (Rep.int .u8)) v0_0 a0_0),(false,.ptr Sensor_.rep v1_0 a1_0)] [] (λ v Γr Ωr Ωo=>∃ u0:Value,v=u0∧Γr=[]∧Ωr=[(false,(.slice 5 (Rep.int .u8) u0 y))]∧Ωo=[]):=by
 refine Spec.of (L:=[(0,.func (.func 215) #[] #[v0_0]),(1,.func (.func 165) #[] #[v1_0])]) Tryz.func163 rfl ⟨rfl,rfl,trivial⟩ rfl (λ e h=>?_)
 unfold slices_SortedFunc_uint8_slices_Values_uint8_uint8_1_sampling_Reading_1 at hF
 refine sr (ga rfl (nil (sr (gm rfl ?_))))
 obtain ⟨y1,e1,hF⟩:=bindP_use hF
 have h1:=h.front .nil
 refine op (OpS.callO h1 Tryz.func213 rfl rfl rfl rfl (vs:=[.func (.func 215) #[] #[v0_0]]) rfl (slices_Collect_uint8_slices_Values_uint8_uint8_1_ok e1) rfl (.ptr .z .nil) ?_)
 rintro u1 w1 _ _ _ ⟨_,rfl,rfl,rfl,rfl⟩ h2
 have h3:=h2
 simp only [ca,na] at h3
 refine ga rfl (nil (sr (gm rfl (gm rfl ?_))))
 obtain ⟨y2,e2,hF⟩:=bindP_use hF
 have h4:=h3.front (.cons .z .nil)
 refine op (OpS.callO h4 Tryz.func214 rfl rfl rfl rfl (vs:=[u1,.func (.func 165) #[] #[v1_0]]) rfl (slices_SortFunc_uint8_uint8_sampling_Reading_1_ok e2) rfl (.ptr (.s .z) .nil) ?_)
 rintro _ w2 _ _ _ ⟨rfl,rfl,rfl,rfl⟩ h5
 have h6:=h5
 simp only [ca,na] at h6
 refine nil (sr (gm rfl (ga rfl (nil (Run.retP rfl (.tmp rfl .nil) ?_)))))
 cases hF
 exact Post.mk' ⟨u1,rfl,rfl,rfl,rfl⟩ (h6.picks (.cons .z .nil)) .nil
theorem sampling_Reading_ok {fuel:Nat} {a0:Sensor_} {a1:Filter_} {y:Int×Bool} (hF:sampling_Reading fuel a0 a1=some y) {w:World} {v0 v1:Value} :
  Spec Tryz.prog 100 [v0,v1].toArray w [(false,.val Sensor_.rep v0 a0),(false,.val Filter_.rep v1 a1)] [] (λ v Γr Ωr Ωo=>v=.tuple #[.int .u8 y.1,.bool y.2]∧Γr=[]∧Ωr=[]∧Ωo=[]):=by
 refine Spec.of (L:=[(0,v0),(1,v1)]) Tryz.func100 rfl ⟨rfl,rfl,trivial⟩ rfl (λ e h=>?_)
 unfold sampling_Reading at hF
 refine sr (op (OpS.boxF h rfl rfl rfl (V.at .z) (λ u1 w1 h1=>?_)))
 refine op (OpS.boxF h1 rfl rfl rfl (V.at (.s .z)) (λ u2 w2 h2=>?_))
 refine ga rfl (ga rfl (nil (Run.seq (sr (op (OpS.loadB h2 (.s .z) PA.z Get.id ty74 rfl rfl rfl (λ u3 h3=>?_)))))))
 refine op (OpS.loadB h3 .z PA.z Get.id ty188 rfl rfl rfl (λ u4 h4=>?_))
 obtain ⟨y1,e1,hF⟩:=bindP_use hF
 refine op (OpS.callP h4 Tryz.func162 rfl rfl rfl rfl (vs:=[u3,u4]) rfl (sampling_Valid_ok e1) (.cons (f:=false) (V.at (.s .z)) (.cons (f:=false) (V.at .z) .nil)) ?_)
 rintro _ w3 _ _ _ ⟨rfl,rfl,rfl,rfl⟩ h5
 have h6:=h5 rfl rfl
 simp only [ca,na] at h6
 refine op (OpS.not rfl rfl rfl ?_)
 refine gm rfl ?_
 refine RunL.join (σ:=Bool) (λ s_ L_ w_=>L_=[(2,u1),(3,u2),(18,.bool s_)]∧St e w_ [] [(false,.box 74 Sensor_.rep u1 a0),(false,.box 188 Filter_.rep u2 a1)]) hF (λ s1 _ w4 hI hF=>?_) (λ j1 hj1 hF=>?_)
 ·obtain ⟨rfl,h7⟩:=hI
  refine Run.ite rfl hF (λ e2 hF=>?_) (λ e2 hF=>?_)
  ·refine sr (ga rfl (ga rfl (nil (Run.retP rfl (.tmp rfl (.tmp rfl .nil)) ?_))))
   cases hF
   exact Post.mk' ⟨rfl,rfl,rfl,rfl⟩ (h7.picks .nil) .nil
  refine Run.skip (sr (op (OpS.fbox (o3:=0) h7 (.s .z) PA.z fa188_0 rfl rfl rfl rfl ?_)))
  refine op (OpS.loadB h7 (.s .z) PA.a (Get.fld Filter_.f0) ty24 rfl rfl rfl (λ u5 h8=>?_))
  obtain ⟨y2,e3,hF⟩:=bindP_use hF
  have h9:=h8.front .nil
  refine op (OpS.callO h9 Tryz.func164 rfl rfl rfl rfl (vs:=[u5]) rfl (slices_Values_uint8_uint8_ok e3) rfl (.cons (f:=false) (V.at .z) .nil) ?_)
  rintro _ w5 _ _ _ ⟨u6,rfl,rfl,rfl,rfl⟩ h10
  have h11:=h10
  simp only [ca,na] at h11
  refine op (OpS.mkf (fl:=[]) (cl:=[u1]) rfl rfl rfl rfl ?_)
  have h12:=(h11.pick (.s .z)).freezeBox
  have h13:=(h12.pick .z).freezeBox
  obtain ⟨y3,e4,hF⟩:=bindP_use hF
  have h14:=h13.front .nil
  refine op (OpS.callO h14 Tryz.func163 rfl rfl rfl rfl (vs:=[.func (.func 215) #[] #[u6],.func (.func 165) #[] #[u1]]) rfl (slices_SortedFunc_uint8_slices_Values_uint8_uint8_1_sampling_Reading_1_ok e4) rfl (.ptr .z (.ptr (.s .z) .nil)) ?_)
  rintro u7 w6 _ _ _ ⟨_,rfl,rfl,rfl,rfl⟩ h15
  have h16:=h15
  simp only [ca,na] at h16
  refine ga rfl ?_
  have h17:=(h16.pick .z).freeze
  refine nil (sr (gm rfl (gm rfl (op (OpS.len h17 Tryz.underlying24 rfl rfl rfl (V.at .z) ?_)))))
  refine op (OpS.quo rfl rfl rfl rfl (by decide) ?_)
  obtain ⟨x1,e5,hF⟩:=bindP_use hF
  refine op (OpS.iptr h17 Tryz.underlying24 ty5 rfl rfl rfl rfl (V.at .z) e5 (λ u8 h18=>?_))
  refine op (OpS.loadi h18 ty5 rfl rfl rfl .z ?_)
  refine ga rfl (ga rfl (nil (Run.retP rfl (.tmp rfl (.tmp rfl .nil)) ?_)))
  cases hF
  exact Post.mk' ⟨rfl,rfl,rfl,rfl⟩ (h18.picks .nil) .nil
 refine RunL.caseb hF (λ e6 hF=>?_) (λ e6 hF=>?_)
 ·refine gp rfl (gp rfl (gp rfl (gp rfl (gp rfl (gp rfl (gk rfl (nil (Run.slim [(2,u1),(3,u2),(18,.bool true)] ⟨rfl,rfl,rfl,trivial⟩ ?_))))))))
  exact hj1 (true) _ _ ⟨rfl,(h6.facts .nil).picks (.cons (.s .z) (.cons .z .nil))⟩ hF
 refine op (OpS.fbox (o3:=0) h6 .z PA.z fa188_0 rfl rfl rfl rfl ?_)
 refine op (OpS.loadB h6 .z PA.a (Get.fld Filter_.f0) ty24 rfl rfl rfl (λ u9 h19=>?_))
 refine op (OpS.len h19 Tryz.underlying24 rfl rfl rfl (V.at .z) ?_)
 refine op (OpS.fbox (o3:=27) h19 (.s .z) PA.z fa74_14 rfl rfl rfl rfl ?_)
 refine op (OpS.loadBi h19 (.s .z) PA.a (Get.fld Sensor_.f14) ty3 rfl rfl rfl ?_)
 refine gb rfl (gk rfl (nil (Run.slim [(2,u1),(3,u2),(18,.bool ((a1.Window.length:Int) != a0.Samples))] ⟨rfl,rfl,rfl,trivial⟩ ?_)))
 exact hj1 ((a1.Window.length:Int) != a0.Samples) _ _ ⟨rfl,(h19.facts .nil).picks (.cons (.s .z) (.cons .z .nil))⟩ hF
theorem threshold_analog_ok {fuel:Nat} {a0:Sensor_} {y:Bool} (hF:threshold_analog fuel a0=some y) {w:World} {v0:Value} :
  Spec Tryz.prog 120 [v0].toArray w [(false,.val Sensor_.rep v0 a0)] [] (λ v Γr Ωr Ωo=>v=.bool y∧Γr=[]∧Ωr=[]∧Ωo=[]):=by
 refine Spec.of (L:=[(0,v0)]) Tryz.func120 rfl ⟨rfl,trivial⟩ rfl (λ e h=>?_)
 unfold threshold_analog at hF
 refine sr (op (OpS.boxF h rfl rfl rfl (V.at .z) (λ u1 w1 h1=>?_)))
 refine ga rfl (nil (sr (op (OpS.fbox (o3:=6) h1 .z PA.z fa74_5 rfl rfl rfl rfl ?_))))
 refine op (OpS.loadBb h1 .z PA.a (Get.fld Sensor_.f5) ty4 rfl rfl rfl ?_)
 refine op (OpS.not rfl rfl rfl ?_)
 refine gm rfl ?_
 refine RunL.caseb hF (λ e1 hF=>?_) (λ e1 hF=>?_)
 ·refine op (OpS.loadB h1 .z PA.z Get.id ty74 rfl rfl rfl (λ u2 h2=>?_))
  obtain ⟨y1,e2,hF⟩:=bindP_use hF
  refine op (OpS.callP h2 Tryz.func107 rfl rfl rfl rfl (vs:=[u2]) rfl (sensor_Valid_ok e2) (.cons (f:=false) (V.at .z) .nil) ?_)
  rintro _ w2 _ _ _ ⟨rfl,rfl,rfl,rfl⟩ h3
  have h4:=h3 rfl rfl
  simp only [ca,na] at h4
  refine gk rfl (ga rfl (nil (Run.retP rfl (.tmp rfl .nil) ?_)))
  cases hF
  exact Post.mk' ⟨rfl,rfl,rfl,rfl⟩ (h4.picks .nil) .nil
 refine gp rfl (gp rfl (gk rfl (ga rfl (nil (Run.retP rfl (.tmp rfl .nil) ?_)))))
 cases hF
 exact Post.mk' ⟨rfl,rfl,rfl,rfl⟩ (h1.picks .nil) .nil
set_option maxRecDepth 20000 in
theorem threshold_beyond_ok {fuel:Nat} {a0:Sensor_} {a1:Int} {a2:Int} {y:Int×Int} (hF:threshold_beyond fuel a0 a1 a2=some y) {w:World} {v0:Value} :
  Spec Tryz.prog 190 [v0,.int .i64 a1,.int .u8 a2].toArray w [(false,.val Sensor_.rep v0 a0)] [] (λ v Γr Ωr Ωo=>v=.tuple #[.int .i64 y.1,.int .i64 y.2]∧Γr=[]∧Ωr=[]∧Ωo=[]):=by
 refine Spec.of (L:=[(0,v0),(1,.int .i64 a1),(2,.int .u8 a2)]) Tryz.func190 rfl ⟨rfl,rfl,rfl,trivial⟩ rfl (λ e h=>?_)
 unfold threshold_beyond at hF
 refine sr (op (OpS.boxF h rfl rfl rfl (V.at .z) (λ u1 w1 h1=>?_)))
 refine ga rfl (ga rfl (nil (Run.seq ?_)))
 obtain ⟨y1,e1,hF⟩:=bindP_use hF
 obtain ⟨x1,e2,hF⟩:=bindP_use hF
 obtain ⟨e3,hF⟩:=chk_use hF
 refine Run.drawV (Ωs:=[]) [.kr 10 (padd u1 7) [0],.kr 11 (padd u1 8) [0],.kr 12 (.bool a0.Conversion.Signed) [0],.k 13 (.int .u8 a2),.k 14 (.int .i64 y1),.kr 15 (padd u1 7) [0],.kr 16 (padd u1 8) [0],.kr 17 (.bool a0.Conversion.Signed) [0],.k 18 (.int .i64 a1),.kr 19 (padd u1 14) [0],.kr 20 (padd u1 15) [0],.kr 21 (padd u1 (15+(a1:Int).toNat*(Rep.int .u8).n)) [0],.kr 22 (.int .u8 x1) [0]] [[],[0],[1],[],[2,3],[],[5],[6],[],[],[9],[10,8],[11]] [[(false,.box 74 Sensor_.rep u1 a0)]] [0,1,2,3,4,5,6,7,8,9,10,11,12,13] Try_mixed rfl rfl rfl h1 (.cons ?_ (.cons ?_ (.cons ?_ (.cons ?_ (.cons ?_ (.cons ?_ (.cons ?_ (.cons ?_ (.cons ?_ (.cons ?_ (.cons ?_ (.cons ?_ (.cons ?_ .nil))))))))))))) (λ q1 w hq1 h=>?_)
 ·intro q1 w Γx Ωx h
  refine OpS.fbox (o3:=7) h .z PA.z fa74_6 rfl rfl rfl rfl ?_
  exact du h
 ·intro q1 w Γx Ωx h
  refine OpS.fbox (o3:=8) h .z PA.a fa69_1 rfl rfl rfl rfl ?_
  exact du h
 ·intro q1 w Γx Ωx h
  refine OpS.loadBb h .z PA.a (Get.comp (Get.fld Sensor_.f6) (Get.fld Conversion_.f1)) ty4 rfl rfl rfl ?_
  exact du h
 ·intro q1 w Γx Ωx h
  refine OpS.mv rfl rfl rfl ?_
  exact du h
 ·intro q1 w Γx Ωx h
  refine OpS.callP h Tryz.func51 rfl rfl rfl rfl (vs:=[.bool a0.Conversion.Signed,.int .u8 a2]) rfl (convert_Number_ok e1) .nil ?_
  rintro _ w3 _ _ _ ⟨rfl,rfl,rfl,rfl⟩ h4
  have h5:=h4 rfl rfl
  simp only [ca,na] at h5
  exact ⟨undef,rfl,trivial,h5⟩
 ·intro q1 w Γx Ωx h
  refine OpS.fbox (o3:=7) h .z PA.z fa74_6 rfl rfl rfl rfl ?_
  exact du h
 ·intro q1 w Γx Ωx h
  refine OpS.fbox (o3:=8) h .z PA.a fa69_1 rfl rfl rfl rfl ?_
  exact du h
 ·intro q1 w Γx Ωx h
  refine OpS.loadBb h .z PA.a (Get.comp (Get.fld Sensor_.f6) (Get.fld Conversion_.f1)) ty4 rfl rfl rfl ?_
  exact du h
 ·intro q1 w Γx Ωx h
  refine OpS.mv rfl rfl rfl ?_
  exact du h
 ·intro q1 w Γx Ωx h
  refine OpS.fbox (o3:=14) h .z PA.z fa74_7 rfl rfl rfl rfl ?_
  exact du h
 ·intro q1 w Γx Ωx h
  refine OpS.fbox (o3:=15) h .z PA.a fa72_1 rfl rfl rfl rfl ?_
  exact du h
 ·intro q1 w Γx Ωx h
  refine OpS.ibox h .z PA.a Tryz.underlying70 ty5 (Nat.eq_of_beq_eq_true e3) rfl rfl rfl rfl e2 ?_
  exact du h
 ·intro q1 w Γx Ωx h
  refine OpS.loadBi h .z PA.a (Get.comp (Get.comp (Get.fld Sensor_.f7) (Get.fld Thresholds_.f1)) (Get.arr e2)) ty5 rfl rfl rfl ?_
  exact du h
 have h6:=h
 obtain ⟨y2,e4,hF⟩:=bindP_use hF
 refine op (OpS.callP h6 Tryz.func51 rfl rfl rfl rfl (vs:=[.bool a0.Conversion.Signed,.int .u8 x1]) rfl (convert_Number_ok e4) .nil ?_)
 rintro _ w4 _ _ _ ⟨rfl,rfl,rfl,rfl⟩ h7
 have h8:=h7 rfl rfl
 simp only [ca,na] at h8
 refine ga rfl (ga rfl (nil (Run.seq (sr (gm rfl (gb rfl (nil ?_)))))))
 refine Run.ite rfl hF (λ e5 hF=>?_) (λ e5 hF=>?_)
 ·refine Run.seq (Run.slim [(25,.bool (decide (a1≤2))),(9,.int .i64 y2),(8,.int .i64 y1),(3,u1)] ⟨rfl,rfl,rfl,rfl,trivial⟩ ?_)
  refine Run.drawV (Ωs:=[]) [.k 26 (.int .i64 y2),.k 27 (.int .i64 y1),.k 28 (.int .i64 (IntKind.i64.wrap (y2-y1))),.kr 29 (padd u1 21) [0],.kr 30 (.int .u8 a0.HystLower) [0],.k 31 (.int .i64 (IntKind.i64.wrap a0.HystLower)),.k 6 (.int .i64 (IntKind.i64.wrap (y2-y1)))] [[],[],[0,1],[],[3],[4],[2]] [[(false,.box 74 Sensor_.rep u1 a0)]] [0,1,2,3,4,5,6,7] Try_mixed rfl rfl rfl h8 (.cons ?_ (.cons ?_ (.cons ?_ (.cons ?_ (.cons ?_ (.cons ?_ (.cons ?_ .nil))))))) (λ q2 w hq2 h=>?_)
  ·intro q2 w Γx Ωx h
   refine OpS.mv rfl rfl rfl ?_
   exact du h
  ·intro q2 w Γx Ωx h
   refine OpS.mv rfl rfl rfl ?_
   exact du h
  ·intro q2 w Γx Ωx h
   refine OpS.bin rfl rfl rfl rfl rfl ?_
   exact du h
  ·intro q2 w Γx Ωx h
   refine OpS.fbox (o3:=21) h .z PA.z fa74_8 rfl rfl rfl rfl ?_
   exact du h
  ·intro q2 w Γx Ωx h
   refine OpS.loadBi h .z PA.a (Get.fld Sensor_.f8) ty5 rfl rfl rfl ?_
   exact du h
  ·intro q2 w Γx Ωx h
   refine OpS.conv Tryz.underlying5 Tryz.underlying3 rfl rfl rfl ?_
   exact du h
  ·intro q2 w Γx Ωx h
   refine OpS.as rfl rfl rfl ?_
   exact du h
  have h9:=h
  refine ga rfl ?_
  obtain ⟨x2,e6,hF⟩:=letP_use hF
  refine RunL.name e6 ?_
  refine nil (Run.retP rfl (.tmp rfl (.tmp rfl .nil)) ?_)
  cases hF
  exact Post.mk' ⟨rfl,rfl,rfl,rfl⟩ (h9.picks .nil) .nil
 refine Run.skip (Run.seq (Run.slim [(25,.bool (decide (a1≤2))),(9,.int .i64 y2),(8,.int .i64 y1),(3,u1)] ⟨rfl,rfl,rfl,rfl,trivial⟩ ?_))
 refine Run.drawV (Ωs:=[]) [.k 32 (.int .i64 y1),.k 33 (.int .i64 y2),.k 34 (.int .i64 (IntKind.i64.wrap (y1-y2))),.kr 35 (padd u1 22) [0],.kr 36 (.int .u8 a0.HystUpper) [0],.k 37 (.int .i64 (IntKind.i64.wrap a0.HystUpper)),.k 6 (.int .i64 (IntKind.i64.wrap (y1-y2)))] [[],[],[0,1],[],[3],[4],[2]] [[(false,.box 74 Sensor_.rep u1 a0)]] [0,1,2,3,4,5,6,7] Try_mixed rfl rfl rfl h8 (.cons ?_ (.cons ?_ (.cons ?_ (.cons ?_ (.cons ?_ (.cons ?_ (.cons ?_ .nil))))))) (λ q3 w hq3 h=>?_)
 ·intro q3 w Γx Ωx h
  refine OpS.mv rfl rfl rfl ?_
  exact du h
 ·intro q3 w Γx Ωx h
  refine OpS.mv rfl rfl rfl ?_
  exact du h
 ·intro q3 w Γx Ωx h
  refine OpS.bin rfl rfl rfl rfl rfl ?_
  exact du h
 ·intro q3 w Γx Ωx h
  refine OpS.fbox (o3:=22) h .z PA.z fa74_9 rfl rfl rfl rfl ?_
  exact du h
 ·intro q3 w Γx Ωx h
  refine OpS.loadBi h .z PA.a (Get.fld Sensor_.f9) ty5 rfl rfl rfl ?_
  exact du h
 ·intro q3 w Γx Ωx h
  refine OpS.conv Tryz.underlying5 Tryz.underlying3 rfl rfl rfl ?_
  exact du h
 ·intro q3 w Γx Ωx h
  refine OpS.as rfl rfl rfl ?_
  exact du h
 have h10:=h
 refine ga rfl ?_
 obtain ⟨x3,e7,hF⟩:=letP_use hF
 refine RunL.name e7 ?_
 refine nil (Run.retP rfl (.tmp rfl (.tmp rfl .nil)) ?_)
 cases hF
 exact Post.mk' ⟨rfl,rfl,rfl,rfl⟩ (h10.picks .nil) .nil
set_option maxRecDepth 20000 in
theorem threshold_next_ok {fuel:Nat} {a0:Sensor_} {a1:Int} {a2:Int} {y:Int} (hF:threshold_next fuel a0 a1 a2=some y) {w:World} {v0:Value} :
  Spec Tryz.prog 121 [v0,.int .u8 a1,.int .u8 a2].toArray w [(false,.val Sensor_.rep v0 a0)] [] (λ v Γr Ωr Ωo=>v=.int .u8 y∧Γr=[]∧Ωr=[]∧Ωo=[]):=by
 refine Spec.of (L:=[(0,v0),(1,.int .u8 a1),(2,.int .u8 a2)]) Tryz.func121 rfl ⟨rfl,rfl,rfl,trivial⟩ rfl (λ e h=>?_)
 unfold threshold_next at hF
 refine sr (op (OpS.boxF h rfl rfl rfl (V.at .z) (λ u1 w1 h1=>?_)))
 refine ga rfl (nil (sr (ga rfl (nil (Run.seq (sr (gm rfl (nil (Run.block (Run.slim [(1,.int .u8 a1),(2,.int .u8 a2),(3,u1),(7,.int .u8 0),(12,.int .i64 0)] ⟨rfl,rfl,rfl,rfl,rfl,trivial⟩ ?_))))))))))
 refine Run.loopP (σ:=(Int×Int)) (λ s_ L_ w_=>L_=[(1,.int .u8 a1),(2,.int .u8 a2),(3,u1),(7,.int .u8 s_.1),(12,.int .i64 s_.2)]∧St e w_ [] [(false,.box 74 Sensor_.rep u1 a0)]) hF ⟨rfl,(h1.facts .nil).picks (.cons .z .nil)⟩ (λ k1 hk1 s1 _ w2 hI hF=>?_)
 obtain ⟨rfl,h2⟩:=hI
 refine sr (gb rfl (nil (Run.seq ?_)))
 refine Run.ite rfl hF (λ e1 hF=>?_) (λ e1 hF=>?_)
 ·refine Run.skip (Run.seq (Run.block (sr (gm rfl (ga rfl (nil (Run.seq ?_)))))))
  obtain ⟨e2,hF⟩:=chk_use hF
  refine Run.drawV (Ωs:=[]) [.k 15 (.int .i64 s1.2),.k 16 (.int .u8 (bShl .u8 1 s1.2)),.kr 17 (padd u1 14) [0],.kr 18 (padd u1 14) [0],.kr 19 (.int .u8 a0.Limits.Mask) [0]] [[],[0],[],[2],[3]] [[(false,.box 74 Sensor_.rep u1 a0)]] [0,1,2,3,4,5] Try_mixed rfl rfl rfl h2 (.cons ?_ (.cons ?_ (.cons ?_ (.cons ?_ (.cons ?_ .nil))))) (λ q1 w hq1 h=>?_)
  ·intro q1 w Γx Ωx h
   refine OpS.mv rfl rfl rfl ?_
   exact du h
  ·intro q1 w Γx Ωx h
   refine OpS.shl rfl rfl rfl rfl e2 ?_
   exact du h
  ·intro q1 w Γx Ωx h
   refine OpS.fbox (o3:=14) h .z PA.z fa74_7 rfl rfl rfl rfl ?_
   exact du h
  ·intro q1 w Γx Ωx h
   refine OpS.fbox (o3:=14) h .z PA.a fa72_0 rfl rfl rfl rfl ?_
   exact du h
  ·intro q1 w Γx Ωx h
   refine OpS.loadBi h .z PA.a (Get.comp (Get.fld Sensor_.f7) (Get.fld Thresholds_.f0)) ty5 rfl rfl rfl ?_
   exact du h
  have h3:=h
  refine gb rfl (ga rfl ?_)
  obtain ⟨x1,e3,hF⟩:=letP_use hF
  refine RunL.name e3 ?_
  refine nil (sr (op (OpS.loadB h3 .z PA.z Get.id ty74 rfl rfl rfl (λ u2 h4=>?_))))
  refine gm rfl (gm rfl ?_)
  obtain ⟨y1,e4,hF⟩:=bindP_use hF
  refine op (OpS.callP h4 Tryz.func190 rfl rfl rfl rfl (vs:=[u2,.int .i64 s1.2,.int .u8 a2]) rfl (threshold_beyond_ok e4) (.cons (f:=false) (V.at .z) .nil) ?_)
  rintro _ w3 _ _ _ ⟨rfl,rfl,rfl,rfl⟩ h5
  have h6:=h5 rfl rfl
  simp only [ca,na] at h6
  refine gm rfl (op (OpS.ext rfl rfl rfl rfl ?_))
  refine op (OpS.ext rfl rfl rfl rfl ?_)
  refine ga rfl (ga rfl (nil (sr (gm rfl (gb rfl (gm rfl ?_))))))
  refine RunL.join (σ:=Bool) (λ s_ L_ w_=>L_=[(1,.int .u8 a1),(2,.int .u8 a2),(3,u1),(7,.int .u8 s1.1),(9,.int .u8 x1),(12,.int .i64 s1.2),(41,.bool s_)]∧St e w_ [] [(false,.box 74 Sensor_.rep u1 a0)]) hF (λ s2 _ w4 hI hF=>?_) (λ j1 hj1 hF=>?_)
  ·obtain ⟨rfl,h7⟩:=hI
   refine Run.ite rfl hF (λ e5 hF=>?_) (λ e5 hF=>?_)
   ·refine Run.reg (gm rfl (gm rfl (gb rfl (ga rfl (nil (Run.endBlock (Run.reg (gb rfl (gm rfl (nil (Run.slim [(1,.int .u8 a1),(2,.int .u8 a2),(3,u1),(7,.int .u8 (bOr .u8 s1.1 x1)),(12,.int .i64 (IntKind.i64.wrap (s1.2+1)))] ⟨rfl,rfl,rfl,rfl,rfl,trivial⟩ ?_)))))))))))
    exact hk1 ((bOr .u8 s1.1 x1),(IntKind.i64.wrap (s1.2+1))) _ _ ⟨rfl,(h7.facts .nil).picks (.cons .z .nil)⟩ hF
   refine Run.skip (Run.endBlock (Run.reg (gb rfl (gm rfl (nil (Run.slim [(1,.int .u8 a1),(2,.int .u8 a2),(3,u1),(7,.int .u8 s1.1),(12,.int .i64 (IntKind.i64.wrap (s1.2+1)))] ⟨rfl,rfl,rfl,rfl,rfl,trivial⟩ ?_))))))
   exact hk1 (s1.1,(IntKind.i64.wrap (s1.2+1))) _ _ ⟨rfl,(h7.facts .nil).picks (.cons .z .nil)⟩ hF
  refine RunL.caseb hF (λ e6 hF=>?_) (λ e6 hF=>?_)
  ·refine gp rfl (gp rfl (gp rfl (gp rfl (gp rfl (gp rfl (gp rfl (gp rfl (gp rfl (gp rfl (gk rfl (nil (Run.slim [(41,.bool true),(9,.int .u8 x1),(1,.int .u8 a1),(2,.int .u8 a2),(3,u1),(7,.int .u8 s1.1),(12,.int .i64 s1.2)] ⟨rfl,rfl,rfl,rfl,rfl,rfl,rfl,trivial⟩ ?_))))))))))))
   refine Run.slim [(1,.int .u8 a1),(2,.int .u8 a2),(3,u1),(7,.int .u8 s1.1),(9,.int .u8 x1),(12,.int .i64 s1.2),(41,.bool true)] ⟨rfl,rfl,rfl,rfl,rfl,rfl,rfl,trivial⟩ ?_
   exact hj1 (true) _ _ ⟨rfl,(h6.facts .nil).picks (.cons .z .nil)⟩ hF
  refine gm rfl (gm rfl (gb rfl (gb rfl (gm rfl ?_))))
  refine RunL.caseb hF (λ e7 hF=>?_) (λ e7 hF=>?_)
  ·refine gm rfl (gm rfl (op (OpS.neg rfl rfl rfl ?_)))
   refine gb rfl (gk rfl (gk rfl (nil (Run.slim [(41,.bool (decide (y1.1≥(IntKind.i64.wrap (0-y1.2))))),(9,.int .u8 x1),(1,.int .u8 a1),(2,.int .u8 a2),(3,u1),(7,.int .u8 s1.1),(12,.int .i64 s1.2)] ⟨rfl,rfl,rfl,rfl,rfl,rfl,rfl,trivial⟩ ?_))))
   refine Run.slim [(1,.int .u8 a1),(2,.int .u8 a2),(3,u1),(7,.int .u8 s1.1),(9,.int .u8 x1),(12,.int .i64 s1.2),(41,.bool (decide (y1.1≥(IntKind.i64.wrap (0-y1.2)))))] ⟨rfl,rfl,rfl,rfl,rfl,rfl,rfl,trivial⟩ ?_
   exact hj1 (decide (y1.1≥(IntKind.i64.wrap (0-y1.2)))) _ _ ⟨rfl,(h6.facts .nil).picks (.cons .z .nil)⟩ hF
  refine gp rfl (gp rfl (gp rfl (gp rfl (gk rfl (gk rfl (nil (Run.slim [(41,.bool false),(9,.int .u8 x1),(1,.int .u8 a1),(2,.int .u8 a2),(3,u1),(7,.int .u8 s1.1),(12,.int .i64 s1.2)] ⟨rfl,rfl,rfl,rfl,rfl,rfl,rfl,trivial⟩ ?_)))))))
  refine Run.slim [(1,.int .u8 a1),(2,.int .u8 a2),(3,u1),(7,.int .u8 s1.1),(9,.int .u8 x1),(12,.int .i64 s1.2),(41,.bool false)] ⟨rfl,rfl,rfl,rfl,rfl,rfl,rfl,trivial⟩ ?_
  exact hj1 (false) _ _ ⟨rfl,(h6.facts .nil).picks (.cons .z .nil)⟩ hF
 refine Run.exit rfl ?_
 refine sr (gm rfl (ga rfl (nil (Run.retP rfl (.tmp rfl .nil) ?_))))
 cases hF
 exact Post.mk' ⟨rfl,rfl,rfl,rfl⟩ (h2.picks .nil) .nil
theorem threshold_Step_ok {fuel:Nat} {a0:Sensor_} {a1:Int} {a2:Int} {y:Int×(List Change_)×Int} (hF:threshold_Step fuel a0 a1 a2=some y) {w:World} {v0:Value} :
  Spec Tryz.prog 152 [v0,.int .u8 a1,.int .u8 a2].toArray w [(false,.val Sensor_.rep v0 a0)] [] (λ v Γr Ωr Ωo=>∃ u1:Value,v=.tuple #[.int .u8 y.1,u1,.int .i64 y.2.2]∧Γr=[]∧Ωr=[(true,(.slice 288 Change_.rep u1 y.2.1))]∧Ωo=[]):=by
 refine Spec.of (L:=[(0,v0),(1,.int .u8 a1),(2,.int .u8 a2)]) Tryz.func152 rfl ⟨rfl,rfl,rfl,trivial⟩ rfl (λ e h=>?_)
 unfold threshold_Step at hF
 refine sr (op (OpS.boxF h rfl rfl rfl (V.at .z) (λ u1 w1 h1=>?_)))
 refine ga rfl (ga rfl (ga rfl (nil (Run.seq (Run.block (sr (op (OpS.loadB h1 .z PA.z Get.id ty74 rfl rfl rfl (λ u2 h2=>?_)))))))))
 obtain ⟨y1,e1,hF⟩:=bindP_use hF
 refine op (OpS.callP h2 Tryz.func120 rfl rfl rfl rfl (vs:=[u2]) rfl (threshold_analog_ok e1) (.cons (f:=false) (V.at .z) .nil) ?_)
 rintro _ w2 _ _ _ ⟨rfl,rfl,rfl,rfl⟩ h3
 have h4:=h3 rfl rfl
 simp only [ca,na] at h4
 refine op (OpS.not rfl rfl rfl ?_)
 refine ga rfl ?_
 obtain ⟨x1,e2,hF⟩:=letP_use hF
 refine RunL.nameb e2 ?_
 refine nil ?_
 refine Run.ite rfl hF (λ e3 hF=>?_) (λ e3 hF=>?_)
 ·refine sr (ga rfl (ga rfl (ga rfl (nil ?_))))
  have h5:=St.nil 288 Change_.rep h4
  refine Run.retP rfl (.tmp rfl (.tmp rfl (.tmp rfl .nil))) ?_
  cases hF
  exact Post.mk' ⟨(.slice none 0 0),rfl,rfl,rfl,rfl⟩ (h5.picks (.cons .z .nil)) .nil
 refine sr (gm rfl (op (OpS.fbox (o3:=14) h4 .z PA.z fa74_7 rfl rfl rfl rfl ?_)))
 refine op (OpS.fbox (o3:=14) h4 .z PA.a fa72_0 rfl rfl rfl rfl ?_)
 refine op (OpS.loadBi h4 .z PA.a (Get.comp (Get.fld Sensor_.f7) (Get.fld Thresholds_.f0)) ty5 rfl rfl rfl ?_)
 refine gb rfl (gb rfl (ga rfl ?_))
 obtain ⟨x2,e4,hF⟩:=letP_use hF
 refine RunL.nameb e4 ?_
 refine nil ?_
 refine Run.ite rfl hF (λ e5 hF=>?_) (λ e5 hF=>?_)
 ·refine sr (ga rfl (ga rfl (ga rfl (nil ?_))))
  have h6:=St.nil 288 Change_.rep h4
  refine Run.retP rfl (.tmp rfl (.tmp rfl (.tmp rfl .nil))) ?_
  cases hF
  exact Post.mk' ⟨(.slice none 0 0),rfl,rfl,rfl,rfl⟩ (h6.picks (.cons .z .nil)) .nil
 refine Run.skip (Run.endBlock (sr (op (OpS.loadB h4 .z PA.z Get.id ty74 rfl rfl rfl (λ u3 h7=>?_)))))
 refine gm rfl (gm rfl ?_)
 obtain ⟨y2,e6,hF⟩:=bindP_use hF
 refine op (OpS.callP h7 Tryz.func121 rfl rfl rfl rfl (vs:=[u3,.int .u8 a1,.int .u8 a2]) rfl (threshold_next_ok e6) (.cons (f:=false) (V.at .z) .nil) ?_)
 rintro _ w3 _ _ _ ⟨rfl,rfl,rfl,rfl⟩ h8
 have h9:=h8 rfl rfl
 simp only [ca,na] at h9
 refine ga rfl (nil (sr (ga rfl (nil (Run.seq (sr (gm rfl (nil (Run.block ?_)))))))))
 have h10:=St.nil 288 Change_.rep h9
 refine Run.slim [(1,.int .u8 a1),(9,.int .u8 y2),(10,(.slice none 0 0)),(27,.int .i64 0)] ⟨rfl,rfl,rfl,rfl,trivial⟩ ?_
 refine Run.loopP (σ:=(Int×(List Change_))) (λ s_ L_ w_=>∃ u0_:Value,L_=[(1,.int .u8 a1),(9,.int .u8 y2),(10,u0_),(27,.int .i64 s_.1)]∧St e w_ [] [(true,.slice 288 Change_.rep u0_ s_.2)]) hF ⟨(.slice none 0 0),rfl,(h10.facts .nil).picks (.cons .z .nil)⟩ (λ k1 hk1 s1 _ w4 hI hF=>?_)
 obtain ⟨u4,rfl,h11⟩:=hI
 refine sr (gb rfl (nil (Run.seq ?_)))
 refine Run.ite rfl hF (λ e7 hF=>?_) (λ e7 hF=>?_)
 ·refine Run.skip (Run.seq (Run.block (sr (gm rfl (ga rfl (nil (sr (gm rfl (gm rfl (gb rfl (gm rfl ?_)))))))))))
  obtain ⟨e8,hF⟩:=chk_use hF
  refine op (OpS.shr rfl rfl rfl rfl e8 ?_)
  refine gb rfl (gb rfl (nil ?_))
  refine Run.ite rfl hF (λ e9 hF=>?_) (λ e9 hF=>?_)
  ·refine Run.reg (gm rfl (gm rfl (gm rfl (gm rfl ?_))))
   obtain ⟨e10,hF⟩:=chk_use hF
   refine op (OpS.shr rfl rfl rfl rfl e10 ?_)
   refine gb rfl (gb rfl (op (OpS.build (f:=true) (x':=(⟨s1.1,(bAnd .u8 (bShr .u8 y2 s1.1) 1)==1⟩:Change_)) h11 pl288 ti288 Change_.zr rfl rfl rfl (.cons rfl Change_.f0 rfl V.int (.cons rfl Change_.f1 rfl V.bool .nil)) (λ u5 h12=>?_))))
   refine op (OpS.lit (r:=Change_.rep) (f:=true) h12 Tryz.underlying191 ti288 rfl rfl rfl rfl rfl (.cons rfl (V.at .z) .nil) rfl rfl (λ u6 w5 h13=>?_))
   obtain ⟨x3,e11,hF⟩:=bindP_use hF
   refine op (OpS.app (f':=true) h13 .z Tryz.underlying191 ti288 rfl rfl rfl rfl rfl rfl rfl (V.at .z) (.inr Change_.pure) e11 (λ u7 w6 h14=>?_))
   refine ga rfl (nil (Run.endBlock (Run.reg (gb rfl (gm rfl (nil (Run.slim [(1,.int .u8 a1),(9,.int .u8 y2),(10,u7),(27,.int .i64 (IntKind.i64.wrap (s1.1+1)))] ⟨rfl,rfl,rfl,rfl,trivial⟩ ?_)))))))
   exact hk1 ((IntKind.i64.wrap (s1.1+1)),x3) _ _ ⟨u7,rfl,(h14.facts .nil).picks (.cons .z .nil)⟩ hF
  refine Run.skip (Run.endBlock (Run.reg (gb rfl (gm rfl (nil (Run.slim [(1,.int .u8 a1),(9,.int .u8 y2),(10,u4),(27,.int .i64 (IntKind.i64.wrap (s1.1+1)))] ⟨rfl,rfl,rfl,rfl,trivial⟩ ?_))))))
  exact hk1 ((IntKind.i64.wrap (s1.1+1)),s1.2) _ _ ⟨u4,rfl,(h11.facts .nil).picks (.cons .z .nil)⟩ hF
 refine Run.exit rfl ?_
 refine sr (gm rfl (gm rfl (ga rfl (ga rfl (ga rfl (nil (Run.retP rfl (.tmp rfl (.tmp rfl (.tmp rfl .nil))) ?_)))))))
 cases hF
 exact Post.mk' ⟨u4,rfl,rfl,rfl,rfl⟩ (h11.picks (.cons .z .nil)) .nil
end Lift
