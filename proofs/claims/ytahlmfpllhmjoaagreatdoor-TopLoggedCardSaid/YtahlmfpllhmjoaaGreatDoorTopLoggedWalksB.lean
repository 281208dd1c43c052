import Derived.Test.YtahlmfpllhmjoaaGreatDoorTopLoggedWalksA
set_option linter.unusedVariables false
set_option linter.unusedSimpArgs false
namespace Lift
open Go Go.Proofs
open RunL (op sr nil gm ga gb gp gk dp du)
abbrev RqB1:Rep Qb:=Rep.iso (λ s:Qb=>(s.d,s.first,s.sectors,s.overwrite,s.newest,s.tail,s.used,s.next,s.records,s.full,s.number,s.held,s.ended,())) (Rep.prod Rep.lnk0 (Rep.prod (Rep.int .i64) (Rep.prod (Rep.int .i64) (Rep.prod Rep.bool (Rep.prod (Rep.int .i64) (Rep.prod (Rep.int .i64) (Rep.prod (Rep.int .i64) (Rep.prod (Rep.int .u16) (Rep.prod (Rep.raw (α:=List Qe) (.slice none 0 0)) (Rep.prod Rep.bool (Rep.prod (Rep.int .u16) (Rep.prod Rep.bool (Rep.prod Rep.bool Rep.unit)))))))))))))
set_option maxRecDepth 20000 in
theorem Qil {fuel:Nat} {a0:List Int} {y:Int} (hF:Qbs fuel a0=some y) {w:World} {v0:Value} :
  Spec Tryz.prog 145 [v0].toArray w [(false,.val (Rep.slice (Rep.int .u8)) v0 a0)] [] (λ v Γr Ωr Ωo=>v=.int .i64 y∧Γr=[]∧Ωr=[]∧Ωo=[]):=by
 refine Spec.of (L:=[(0,v0)]) Tryz.func145 rfl ⟨rfl,trivial⟩ rfl (λ e h=>?_)
 unfold Qbs at hF
 refine sr (ga rfl (nil (Run.seq ?_)))
 obtain ⟨x1,e1,hF⟩:=Qa hF
 obtain ⟨x2,e2,hF⟩:=Qa hF
 obtain ⟨x3,e3,hF⟩:=Qa hF
 obtain ⟨x4,e4,hF⟩:=Qa hF
 refine Run.drawV (Ωs:=[]) [.k 3 v0,.f 4 (λ u_=>[(false,.ptr (Rep.int .u8) u_ x1)]),.k 5 (.int .u8 x1),.k 6 (.int .i64 (IntKind.i64.wrap x1)),.k 7 v0,.f 8 (λ u_=>[(false,.ptr (Rep.int .u8) u_ x2)]),.k 9 (.int .u8 x2),.k 10 (.int .i64 (IntKind.i64.wrap x2)),.k 11 (.int .i64 (bShl .i64 (IntKind.i64.wrap x2) 8)),.k 12 (.int .i64 (bOr .i64 (IntKind.i64.wrap x1) (bShl .i64 (IntKind.i64.wrap x2) 8))),.k 13 v0,.f 14 (λ u_=>[(false,.ptr (Rep.int .u8) u_ x3)]),.k 15 (.int .u8 x3),.k 16 (.int .i64 (IntKind.i64.wrap x3)),.k 17 (.int .i64 (bShl .i64 (IntKind.i64.wrap x3) 16)),.k 18 (.int .i64 (bOr .i64 (bOr .i64 (IntKind.i64.wrap x1) (bShl .i64 (IntKind.i64.wrap x2) 8)) (bShl .i64 (IntKind.i64.wrap x3) 16))),.k 19 v0,.f 20 (λ u_=>[(false,.ptr (Rep.int .u8) u_ x4)]),.k 21 (.int .u8 x4),.k 22 (.int .i64 (IntKind.i64.wrap x4)),.k 23 (.int .i64 (bShl .i64 (IntKind.i64.wrap x4) 24))] [[],[0],[1],[2],[],[4],[5],[6],[7],[3,8],[],[10],[11],[12],[13],[9,14],[],[16],[17],[18],[19]] [] [0,1,2,3,4,5,6,7,8,9,10,11,12,13,14,15,16,17,18,19,20] Qi rfl rfl rfl h (.cons ?_ (.cons ?_ (.cons ?_ (.cons ?_ (.cons ?_ (.cons ?_ (.cons ?_ (.cons ?_ (.cons ?_ (.cons ?_ (.cons ?_ (.cons ?_ (.cons ?_ (.cons ?_ (.cons ?_ (.cons ?_ (.cons ?_ (.cons ?_ (.cons ?_ (.cons ?_ (.cons ?_ .nil))))))))))))))))))))) (λ q1 w hq1 h=>?_)
 ·intro q1 w Γx Ωx h
  refine OpS.mv rfl rfl rfl ?_
  exact du h
 ·intro q1 w Γx Ωx h
  refine OpS.iptr h Tryz.underlying24 ty5 rfl rfl rfl rfl (V.at .z) e1 (λ u h5=>?_)
  exact ⟨u,rfl,trivial,h5⟩
 ·intro q1 w Γx Ωx h
  refine OpS.loadi h ty5 rfl rfl rfl .z ?_
  exact du h
 ·intro q1 w Γx Ωx h
  refine OpS.conv Tryz.underlying5 Tryz.underlying3 rfl rfl rfl ?_
  exact du h
 ·intro q1 w Γx Ωx h
  refine OpS.mv rfl rfl rfl ?_
  exact du h
 ·intro q1 w Γx Ωx h
  refine OpS.iptr h Tryz.underlying24 ty5 rfl rfl rfl rfl (V.at .z) e2 (λ u h6=>?_)
  exact ⟨u,rfl,trivial,h6⟩
 ·intro q1 w Γx Ωx h
  refine OpS.loadi h ty5 rfl rfl rfl .z ?_
  exact du h
 ·intro q1 w Γx Ωx h
  refine OpS.conv Tryz.underlying5 Tryz.underlying3 rfl rfl rfl ?_
  exact du h
 ·intro q1 w Γx Ωx h
  refine OpS.shl rfl rfl rfl rfl (by decide) ?_
  exact du h
 ·intro q1 w Γx Ωx h
  refine OpS.bin rfl rfl rfl rfl rfl ?_
  exact du h
 ·intro q1 w Γx Ωx h
  refine OpS.mv rfl rfl rfl ?_
  exact du h
 ·intro q1 w Γx Ωx h
  refine OpS.iptr h Tryz.underlying24 ty5 rfl rfl rfl rfl (V.at .z) e3 (λ u h7=>?_)
  exact ⟨u,rfl,trivial,h7⟩
 ·intro q1 w Γx Ωx h
  refine OpS.loadi h ty5 rfl rfl rfl .z ?_
  exact du h
 ·intro q1 w Γx Ωx h
  refine OpS.conv Tryz.underlying5 Tryz.underlying3 rfl rfl rfl ?_
  exact du h
 ·intro q1 w Γx Ωx h
  refine OpS.shl rfl rfl rfl rfl (by decide) ?_
  exact du h
 ·intro q1 w Γx Ωx h
  refine OpS.bin rfl rfl rfl rfl rfl ?_
  exact du h
 ·intro q1 w Γx Ωx h
  refine OpS.mv rfl rfl rfl ?_
  exact du h
 ·intro q1 w Γx Ωx h
  refine OpS.iptr h Tryz.underlying24 ty5 rfl rfl rfl rfl (V.at .z) e4 (λ u h8=>?_)
  exact ⟨u,rfl,trivial,h8⟩
 ·intro q1 w Γx Ωx h
  refine OpS.loadi h ty5 rfl rfl rfl .z ?_
  exact du h
 ·intro q1 w Γx Ωx h
  refine OpS.conv Tryz.underlying5 Tryz.underlying3 rfl rfl rfl ?_
  exact du h
 ·intro q1 w Γx Ωx h
  refine OpS.shl rfl rfl rfl rfl (by decide) ?_
  exact du h
 have h9:=h
 refine gb rfl (ga rfl ?_)
 obtain ⟨x5,e5,hF⟩:=Qh hF
 refine RunL.name e5 ?_
 refine nil (Run.retP rfl (.tmp rfl .nil) ?_)
 cases hF
 exact Post.mk' ⟨rfl,rfl,rfl,rfl⟩ (h9.picks .nil) .nil
set_option maxHeartbeats 8000000 in set_option maxRecDepth 20000 in
theorem Qjz {fuel:Nat} {a0:Qb} {a1:List Int} {a2:Int} {y:Qf×Bool} (hF:Qax fuel a0 a1 a2=some y) {w:World} {v0 v0_0 qd v0_1 v1:Value} :
  Spec Tryz.prog 72 [v0,v1,.int .i64 a2].toArray w [(false,.val (Rep.slice (Rep.int .u8)) v1 a1)] [(false,.box 169 (Qb.repW v0_0 v0_1) v0 a0),(false,.lnk qd v0_0 a0.d),(false,.slice 200 Qe.rep v0_1 a0.records)] (λ v Γr Ωr Ωo=>∃ u0:Value,v=.tuple #[u0,.bool y.2]∧Γr=[(true,.val Qf.rep u0 y.1)]∧Ωr=[]∧Ωo=[(false,.box 169 (Qb.repW v0_0 v0_1) v0 a0),(false,.lnk qd v0_0 a0.d),(false,(.slice 200 Qe.rep v0_1 a0.records))]):=by
 refine Spec.of (L:=[(0,v0),(1,v1),(2,.int .i64 a2)]) Tryz.func72 rfl ⟨rfl,rfl,rfl,trivial⟩ rfl (λ e h=>?_)
 unfold Qax at hF
 refine sr (op (OpS.alloc h ti174 Qf.zr rfl rfl (λ u1 w1 h1=>?_)))
 refine ga rfl (nil (Run.seq ?_))
 obtain ⟨y1,e1,hF⟩:=Qa hF
 obtain ⟨x1,e2,hF⟩:=Qa hF
 obtain ⟨y2,e3,hF⟩:=Qa hF
 obtain ⟨x2,e4,hF⟩:=Qa hF
 obtain ⟨x3,e5,hF⟩:=Qa hF
 refine Run.drawV (Ωs:=[(true,.box 174 Qf.rep u1 Qf.z),(false,.box 169 (Qb.repW v0_0 v0_1) v0 a0),(false,.lnk qd v0_0 a0.d),(false,.slice 200 Qe.rep v0_1 a0.records)]) [.k 10 v1,.k 11 (.int .i64 y1),.k 12 v1,.f 13 (λ u_=>[(false,.val (Rep.slice (Rep.int .u8)) u_ x1)]),.k 14 (.int .i64 y2),.k 15 v1,.f 16 (λ u_=>[(false,.ptr (Rep.int .u8) u_ x2)]),.k 17 (.int .u8 x2),.k 18 (.int .u16 (IntKind.u16.wrap x2)),.k 19 v1,.f 20 (λ u_=>[(false,.ptr (Rep.int .u8) u_ x3)]),.k 21 (.int .u8 x3),.k 22 (.int .u16 (IntKind.u16.wrap x3)),.k 23 (.int .u16 (bShl .u16 (IntKind.u16.wrap x3) 8)),.k 24 (.int .u16 (bOr .u16 (IntKind.u16.wrap x2) (bShl .u16 (IntKind.u16.wrap x3) 8))),.f 25 (λ u_=>[(true,.val Qf.rep u_ (⟨y1,y2,(bOr .u16 (IntKind.u16.wrap x2) (bShl .u16 (IntKind.u16.wrap x3) 8))⟩:Qf))]),⟨some 8,none,λ u_=>[],λ ds_ u_=>[(true,.box 174 Qf.rep u_ Qf.z)],[],[],none⟩] [[],[0],[],[2],[3],[],[5],[6],[7],[],[9],[10],[11],[12],[8,13],[1,4,14],[]] [] [0,1,2,3,4,5,6,7,8,9,10,11,12,13,14,15,16] Qi rfl rfl rfl h1 (.cons ?_ (.cons ?_ (.cons ?_ (.cons ?_ (.cons ?_ (.cons ?_ (.cons ?_ (.cons ?_ (.cons ?_ (.cons ?_ (.cons ?_ (.cons ?_ (.cons ?_ (.cons ?_ (.cons ?_ (.cons ?_ (.cons ?_ .nil))))))))))))))))) (λ q1 w hq1 h=>?_)
 ·intro q1 w Γx Ωx h
  refine OpS.mv rfl rfl rfl ?_
  exact du h
 ·intro q1 w Γx Ωx h
  refine OpS.callP h Tryz.func145 rfl rfl rfl rfl (vs:=[v1]) rfl (Qil e1) (.cons (f:=false) (V.at .z) .nil) ?_
  rintro _ w5 _ _ _ ⟨rfl,rfl,rfl,rfl⟩ h11
  have h12:=h11 rfl rfl
  simp only [ca,na] at h12
  exact ⟨undef,rfl,trivial,h12⟩
 ·intro q1 w Γx Ωx h
  refine OpS.mv rfl rfl rfl ?_
  exact du h
 ·intro q1 w Γx Ωx h
  refine OpS.sub h Tryz.underlying24 ty5 rfl rfl rfl rfl rfl (V.at .z) e2 (λ u h13=>?_)
  exact ⟨u,rfl,trivial,h13⟩
 ·intro q1 w Γx Ωx h
  refine OpS.callP h Tryz.func145 rfl rfl rfl rfl (vs:=[(q1 3)]) rfl (Qil e3) (.cons (f:=false) (V.at .z) .nil) ?_
  rintro _ w6 _ _ _ ⟨rfl,rfl,rfl,rfl⟩ h14
  have h15:=h14 rfl rfl
  simp only [ca,na] at h15
  exact ⟨undef,rfl,trivial,h15⟩
 ·intro q1 w Γx Ωx h
  refine OpS.mv rfl rfl rfl ?_
  exact du h
 ·intro q1 w Γx Ωx h
  refine OpS.iptr h Tryz.underlying24 ty5 rfl rfl rfl rfl (V.at .z) e4 (λ u h16=>?_)
  exact ⟨u,rfl,trivial,h16⟩
 ·intro q1 w Γx Ωx h
  refine OpS.loadi h ty5 rfl rfl rfl .z ?_
  exact du h
 ·intro q1 w Γx Ωx h
  refine OpS.conv Tryz.underlying5 Tryz.underlying49 rfl rfl rfl ?_
  exact du h
 ·intro q1 w Γx Ωx h
  refine OpS.mv rfl rfl rfl ?_
  exact du h
 ·intro q1 w Γx Ωx h
  refine OpS.iptr h Tryz.underlying24 ty5 rfl rfl rfl rfl (V.at .z) e5 (λ u h17=>?_)
  exact ⟨u,rfl,trivial,h17⟩
 ·intro q1 w Γx Ωx h
  refine OpS.loadi h ty5 rfl rfl rfl .z ?_
  exact du h
 ·intro q1 w Γx Ωx h
  refine OpS.conv Tryz.underlying5 Tryz.underlying49 rfl rfl rfl ?_
  exact du h
 ·intro q1 w Γx Ωx h
  refine OpS.shl rfl rfl rfl rfl (by decide) ?_
  exact du h
 ·intro q1 w Γx Ωx h
  refine OpS.bin rfl rfl rfl rfl rfl ?_
  exact du h
 ·intro q1 w Γx Ωx h
  refine OpS.build (f:=true) (x':=(⟨y1,y2,(bOr .u16 (IntKind.u16.wrap x2) (bShl .u16 (IntKind.u16.wrap x3) 8))⟩:Qf)) h pl174 ti174 Qf.zr rfl rfl rfl (.cons rfl Qf.f0 rfl V.int (.cons rfl Qf.f1 rfl V.int (.cons rfl Qf.f2 rfl V.int .nil))) (λ u h18=>?_)
  exact ⟨u,rfl,trivial,h18⟩
 ·intro q1 w Γx Ωx h
  refine OpS.alloc h ti174 Qf.zr rfl rfl (λ u w7 h19=>?_)
  exact ⟨u,rfl,trivial,h19⟩
 have h20:=h
 refine op (OpS.storeB (f':=true) h20 .z PA.z Put.id ty174 rfl rfl rfl (V.at (.s (.s (.s .z)))) (.inl rfl) (λ w8 h21=>?_))
 refine nil (Run.seq ?_)
 refine Run.join (σ:=Bool) (λ s_ L_ w_=>L_=[(0,v0),(6,u1),(8,(q1 16)),(9,.bool s_)]∧St e w_ [] [(false,.box 169 (Qb.repW v0_0 v0_1) v0 a0),(true,.box 174 Qf.rep u1 Qf.z),(true,.box 174 Qf.rep (q1 16) (⟨y1,y2,(bOr .u16 (IntKind.u16.wrap x2) (bShl .u16 (IntKind.u16.wrap x3) 8))⟩:Qf)),(false,.lnk qd v0_0 a0.d),(false,.slice 200 Qe.rep v0_1 a0.records)]) hF (λ s1 _ w9 hI hF=>?_) (λ j1 hj1 hF=>?_)
 ·obtain ⟨rfl,h22⟩:=hI
  refine Run.seq ?_
  refine Run.join (σ:=Bool) (λ s_ L_ w_=>L_=[(6,u1),(8,(q1 16)),(9,.bool s_)]∧St e w_ [] [(true,.box 174 Qf.rep u1 Qf.z),(true,.box 174 Qf.rep (q1 16) (⟨y1,y2,(bOr .u16 (IntKind.u16.wrap x2) (bShl .u16 (IntKind.u16.wrap x3) 8))⟩:Qf)),(false,.box 169 (Qb.repW v0_0 v0_1) v0 a0),(false,.lnk qd v0_0 a0.d),(false,.slice 200 Qe.rep v0_1 a0.records)]) hF (λ s2 _ w10 hI hF=>?_) (λ j2 hj2 hF=>?_)
  ·obtain ⟨rfl,h23⟩:=hI
   refine Run.seq ?_
   refine Qap hF (λ e6 hF=>?_) (λ e6 hF=>?_)
   ·have hG:=hF
    subst e6
    have hF:=hG
    obtain ⟨x4,e7,hF⟩:=Qh hF
    refine Qap hF (λ e8 hF=>?_) (λ e8 hF=>?_)
    ·have hG:=hF
     subst e8
     have hF:=hG
     refine Run.drawV (Ωs:=[(false,.box 169 (Qb.repW v0_0 v0_1) v0 a0),(false,.lnk qd v0_0 a0.d),(false,.slice 200 Qe.rep v0_1 a0.records)]) [.fr 78 (λ u_=>[(true,.val Qf.rep u_ (⟨y1,y2,(bOr .u16 (IntKind.u16.wrap x2) (bShl .u16 (IntKind.u16.wrap x3) 8))⟩:Qf))]) [1],.k 79 (.bool true),.k 80 (.bool true),.kr 81 (padd (q1 16) 2) [1],.kr 82 (.int .u16 (bOr .u16 (IntKind.u16.wrap x2) (bShl .u16 (IntKind.u16.wrap x3) 8))) [1],.k 83 (.bool (decide ((bOr .u16 (IntKind.u16.wrap x2) (bShl .u16 (IntKind.u16.wrap x3) 8))≥1))),.k 84 (.bool (decide ((bOr .u16 (IntKind.u16.wrap x2) (bShl .u16 (IntKind.u16.wrap x3) 8))≥1))),.k 85 (.bool true),.kr 86 (padd (q1 16) 2) [1],.kr 87 (.int .u16 (bOr .u16 (IntKind.u16.wrap x2) (bShl .u16 (IntKind.u16.wrap x3) 8))) [1],.k 88 (.bool (decide ((bOr .u16 (IntKind.u16.wrap x2) (bShl .u16 (IntKind.u16.wrap x3) 8))≤65534))),.k 89 (.bool (decide ((bOr .u16 (IntKind.u16.wrap x2) (bShl .u16 (IntKind.u16.wrap x3) 8))≤65534))),⟨none,some undef,λ _=>[],λ ds_ u_=>[(true,.box 174 Qf.rep u1 (⟨y1,y2,(bOr .u16 (IntKind.u16.wrap x2) (bShl .u16 (IntKind.u16.wrap x3) 8))⟩:Qf))],[0],[],none⟩] [[],[],[1],[2],[3,2],[4,2],[2,5],[6],[7],[8,7],[9,7],[7,10],[0]] [[(true,.box 174 Qf.rep u1 Qf.z)],[(true,.box 174 Qf.rep (q1 16) (⟨y1,y2,(bOr .u16 (IntKind.u16.wrap x2) (bShl .u16 (IntKind.u16.wrap x3) 8))⟩:Qf))]] [1,2,3,4,5,6,7,8,9,10,11,12,13,14] Qi rfl rfl rfl h23 (.cons ?_ (.cons ?_ (.cons ?_ (.cons ?_ (.cons ?_ (.cons ?_ (.cons ?_ (.cons ?_ (.cons ?_ (.cons ?_ (.cons ?_ (.cons ?_ (.cons ?_ .nil))))))))))))) (λ q2 w hq2 h=>?_)
     ·intro q2 w Γx Ωx h
      refine OpS.loadB h .z PA.z Get.id ty174 rfl rfl rfl (λ u h26=>?_)
      exact ⟨u,rfl,trivial,h26⟩
     ·intro q2 w Γx Ωx h
      refine OpS.mv rfl rfl rfl ?_
      exact du h
     ·intro q2 w Γx Ωx h
      refine OpS.mv rfl rfl rfl ?_
      exact du h
     ·intro q2 w Γx Ωx h
      refine OpS.fbox (o3:=2) h .z PA.z Qok rfl rfl rfl rfl ?_
      exact du h
     ·intro q2 w Γx Ωx h
      refine OpS.loadBi h .z PA.a (Get.fld Qf.f2) ty49 rfl rfl rfl ?_
      exact du h
     ·intro q2 w Γx Ωx h
      refine OpS.bin rfl rfl rfl rfl rfl ?_
      exact du h
     ·intro q2 w Γx Ωx h
      refine OpS.pick rfl rfl rfl rfl ?_
      exact du h
     ·intro q2 w Γx Ωx h
      refine OpS.mv rfl rfl rfl ?_
      exact ⟨undef,(congrArg (λ z_=>some (Value.bool z_)) e7),trivial,h⟩
     ·intro q2 w Γx Ωx h
      refine OpS.fbox (o3:=2) h .z PA.z Qok rfl rfl rfl rfl ?_
      exact du h
     ·intro q2 w Γx Ωx h
      refine OpS.loadBi h .z PA.a (Get.fld Qf.f2) ty49 rfl rfl rfl ?_
      exact du h
     ·intro q2 w Γx Ωx h
      refine OpS.bin rfl rfl rfl rfl rfl ?_
      exact du h
     ·intro q2 w Γx Ωx h
      refine OpS.pick rfl rfl rfl rfl ?_
      exact du h
     ·intro q2 w Γx Ωx h
      refine OpS.storeB (f':=true) h .z PA.z Put.id ty174 rfl rfl rfl (V.at .z) (.inl rfl) (λ w12 h27=>?_)
      exact ⟨undef,trivial,trivial,h27⟩
     have h28:=h
     refine ga rfl ?_
     obtain ⟨x5,e9,hF⟩:=Qh hF
     refine RunL.nameb e9 ?_
     refine nil ?_
     obtain ⟨u2,hu1,h29⟩:=Qaq h28 (.s .z) ty174
     refine Run.retP rfl (.cell rfl hu1 (.tmp rfl .nil)) ?_
     cases hF
     exact Post.mk' ⟨u2,rfl,rfl,rfl,rfl⟩ (h29.picks (.cons (.s (.s .z)) (.cons (.s (.s .z)) (.cons (.s (.s .z)) .nil)))) (.val (V.at .z) .nil)
    have hG:=hF
    subst e8
    have hF:=hG
    refine Run.drawV (Ωs:=[(false,.box 169 (Qb.repW v0_0 v0_1) v0 a0),(false,.lnk qd v0_0 a0.d),(false,.slice 200 Qe.rep v0_1 a0.records)]) [.fr 78 (λ u_=>[(true,.val Qf.rep u_ (⟨y1,y2,(bOr .u16 (IntKind.u16.wrap x2) (bShl .u16 (IntKind.u16.wrap x3) 8))⟩:Qf))]) [1],.k 79 (.bool true),.k 80 (.bool true),.kr 81 (padd (q1 16) 2) [1],.kr 82 (.int .u16 (bOr .u16 (IntKind.u16.wrap x2) (bShl .u16 (IntKind.u16.wrap x3) 8))) [1],.k 83 (.bool (decide ((bOr .u16 (IntKind.u16.wrap x2) (bShl .u16 (IntKind.u16.wrap x3) 8))≥1))),.k 84 (.bool (decide ((bOr .u16 (IntKind.u16.wrap x2) (bShl .u16 (IntKind.u16.wrap x3) 8))≥1))),.k 85 (.bool false),.k 86 undef,.k 87 undef,.k 88 undef,.k 89 (.bool false),⟨none,some undef,λ _=>[],λ ds_ u_=>[(true,.box 174 Qf.rep u1 (⟨y1,y2,(bOr .u16 (IntKind.u16.wrap x2) (bShl .u16 (IntKind.u16.wrap x3) 8))⟩:Qf))],[0],[],none⟩] [[],[],[1],[2],[3,2],[4,2],[2,5],[6],[7],[7],[7],[7,10],[0]] [[(true,.box 174 Qf.rep u1 Qf.z)],[(true,.box 174 Qf.rep (q1 16) (⟨y1,y2,(bOr .u16 (IntKind.u16.wrap x2) (bShl .u16 (IntKind.u16.wrap x3) 8))⟩:Qf))]] [1,2,3,4,5,6,7,8,9,10,11,12,13,14] Qi rfl rfl rfl h23 (.cons ?_ (.cons ?_ (.cons ?_ (.cons ?_ (.cons ?_ (.cons ?_ (.cons ?_ (.cons ?_ (.cons (dp λ _=>rfl) (.cons (dp λ _=>rfl) (.cons (dp λ _=>rfl) (.cons ?_ (.cons ?_ .nil))))))))))))) (λ q2 w hq3 h=>?_)
    ·intro q2 w Γx Ωx h
     refine OpS.loadB h .z PA.z Get.id ty174 rfl rfl rfl (λ u h31=>?_)
     exact ⟨u,rfl,trivial,h31⟩
    ·intro q2 w Γx Ωx h
     refine OpS.mv rfl rfl rfl ?_
     exact du h
    ·intro q2 w Γx Ωx h
     refine OpS.mv rfl rfl rfl ?_
     exact du h
    ·intro q2 w Γx Ωx h
     refine OpS.fbox (o3:=2) h .z PA.z Qok rfl rfl rfl rfl ?_
     exact du h
    ·intro q2 w Γx Ωx h
     refine OpS.loadBi h .z PA.a (Get.fld Qf.f2) ty49 rfl rfl rfl ?_
     exact du h
    ·intro q2 w Γx Ωx h
     refine OpS.bin rfl rfl rfl rfl rfl ?_
     exact du h
    ·intro q2 w Γx Ωx h
     refine OpS.pick rfl rfl rfl rfl ?_
     exact du h
    ·intro q2 w Γx Ωx h
     refine OpS.mv rfl rfl rfl ?_
     exact ⟨undef,(congrArg (λ z_=>some (Value.bool z_)) e7),trivial,h⟩
    ·intro q2 w Γx Ωx h
     refine OpS.pick rfl rfl rfl rfl ?_
     exact du h
    ·intro q2 w Γx Ωx h
     refine OpS.storeB (f':=true) h .z PA.z Put.id ty174 rfl rfl rfl (V.at .z) (.inl rfl) (λ w14 h32=>?_)
     exact ⟨undef,trivial,trivial,h32⟩
    have h33:=h
    refine ga rfl (nil ?_)
    obtain ⟨u3,hu2,h34⟩:=Qaq h33 (.s .z) ty174
    refine Run.retP rfl (.cell rfl hu2 (.tmp rfl .nil)) ?_
    cases hF
    exact Post.mk' ⟨u3,rfl,rfl,rfl,rfl⟩ (h34.picks (.cons (.s (.s .z)) (.cons (.s (.s .z)) (.cons (.s (.s .z)) .nil)))) (.val (V.at .z) .nil)
   have hG:=hF
   subst e6
   have hF:=hG
   refine Run.drawV (Ωs:=[(false,.box 169 (Qb.repW v0_0 v0_1) v0 a0),(false,.lnk qd v0_0 a0.d),(false,.slice 200 Qe.rep v0_1 a0.records)]) [.fr 78 (λ u_=>[(true,.val Qf.rep u_ (⟨y1,y2,(bOr .u16 (IntKind.u16.wrap x2) (bShl .u16 (IntKind.u16.wrap x3) 8))⟩:Qf))]) [1],.k 79 (.bool false),.k 80 (.bool false),.k 81 undef,.k 82 undef,.k 83 undef,.k 84 (.bool false),.k 85 (.bool false),.k 86 undef,.k 87 undef,.k 88 undef,.k 89 (.bool false),⟨none,some undef,λ _=>[],λ ds_ u_=>[(true,.box 174 Qf.rep u1 (⟨y1,y2,(bOr .u16 (IntKind.u16.wrap x2) (bShl .u16 (IntKind.u16.wrap x3) 8))⟩:Qf))],[0],[],none⟩] [[],[],[1],[2],[2],[2],[2,5],[6],[7],[7],[7],[7,10],[0]] [[(true,.box 174 Qf.rep u1 Qf.z)],[(true,.box 174 Qf.rep (q1 16) (⟨y1,y2,(bOr .u16 (IntKind.u16.wrap x2) (bShl .u16 (IntKind.u16.wrap x3) 8))⟩:Qf))]] [1,2,3,4,5,6,7,8,9,10,11,12,13,14] Qi rfl rfl rfl h23 (.cons ?_ (.cons ?_ (.cons ?_ (.cons (dp λ _=>rfl) (.cons (dp λ _=>rfl) (.cons (dp λ _=>rfl) (.cons ?_ (.cons ?_ (.cons (dp λ _=>rfl) (.cons (dp λ _=>rfl) (.cons (dp λ _=>rfl) (.cons ?_ (.cons ?_ .nil))))))))))))) (λ q2 w hq4 h=>?_)
   ·intro q2 w Γx Ωx h
    refine OpS.loadB h .z PA.z Get.id ty174 rfl rfl rfl (λ u h36=>?_)
    exact ⟨u,rfl,trivial,h36⟩
   ·intro q2 w Γx Ωx h
    refine OpS.mv rfl rfl rfl ?_
    exact du h
   ·intro q2 w Γx Ωx h
    refine OpS.mv rfl rfl rfl ?_
    exact du h
   ·intro q2 w Γx Ωx h
    refine OpS.pick rfl rfl rfl rfl ?_
    exact du h
   ·intro q2 w Γx Ωx h
    refine OpS.mv rfl rfl rfl ?_
    exact du h
   ·intro q2 w Γx Ωx h
    refine OpS.pick rfl rfl rfl rfl ?_
    exact du h
   ·intro q2 w Γx Ωx h
    refine OpS.storeB (f':=true) h .z PA.z Put.id ty174 rfl rfl rfl (V.at .z) (.inl rfl) (λ w16 h37=>?_)
    exact ⟨undef,trivial,trivial,h37⟩
   have h38:=h
   refine ga rfl (nil ?_)
   obtain ⟨u4,hu3,h39⟩:=Qaq h38 (.s .z) ty174
   refine Run.retP rfl (.cell rfl hu3 (.tmp rfl .nil)) ?_
   cases hF
   exact Post.mk' ⟨u4,rfl,rfl,rfl,rfl⟩ (h39.picks (.cons (.s (.s .z)) (.cons (.s (.s .z)) (.cons (.s (.s .z)) .nil)))) (.val (V.at .z) .nil)
  have h40:=h22.picks (.cons .z (.cons (.s .z) (.cons .z (.cons .z (.cons .z .nil)))))
  refine Qap hF (λ e10 hF=>?_) (λ e10 hF=>?_)
  ·have hG:=hF
   subst e10
   have hF:=hG
   obtain ⟨x6,e11,hF⟩:=Qh hF
   refine Qap hF (λ e12 hF=>?_) (λ e12 hF=>?_)
   ·have hG:=hF
    subst e12
    have hF:=hG
    obtain ⟨x7,e13,hF⟩:=Qh hF
    refine Qap hF (λ e14 hF=>?_) (λ e14 hF=>?_)
    ·have hG:=hF
     subst e14
     have hF:=hG
     refine Run.drawV (Ωs:=[(true,.box 174 Qf.rep u1 Qf.z),(false,.lnk qd v0_0 a0.d),(false,.slice 200 Qe.rep v0_1 a0.records)]) [.k 52 (.bool true),.k 53 (.bool true),.kr 54 (padd (q1 16) 1) [1],.kr 55 (.int .i64 y2) [1],.k 56 (.bool (decide (y2≥1))),.k 57 (.bool (decide (y2≥1))),.k 58 (.bool true),.kr 59 (padd (q1 16) 1) [1],.kr 60 (.int .i64 y2) [1],.kr 61 (padd (q1 16) 0) [1],.kr 62 (.int .i64 y1) [1],.k 63 (.bool (decide (y2≤y1))),.k 64 (.bool (decide (y2≤y1))),.k 65 (.bool true),.kr 66 (padd (q1 16) 0) [1],.kr 67 (.int .i64 y1) [1],.kr 68 (padd (q1 16) 1) [1],.kr 69 (.int .i64 y2) [1],.k 70 (.int .i64 (IntKind.i64.wrap (y1-y2))),.k 71 v0,.kr 72 v0 [0],.kr 73 (padd v0 2) [0],.kr 74 (.int .i64 a0.sectors) [0],.k 75 (.int .i64 (IntKind.i64.wrap (a0.sectors-2)))] [[],[0],[1],[2,1],[3,1],[1,4],[5],[6],[7,6],[6],[9,6],[8,10,6],[6,11],[12],[13],[14,13],[13],[16,13],[15,17,13],[13],[19,13],[20,13],[21,13],[22,13]] [[(false,.box 169 (Qb.repW v0_0 v0_1) v0 a0)],[(true,.box 174 Qf.rep (q1 16) (⟨y1,y2,(bOr .u16 (IntKind.u16.wrap x2) (bShl .u16 (IntKind.u16.wrap x3) 8))⟩:Qf))]] [0,1,2,3,4,5,6,7,8,9,10,11,12,13,14,15,16,17,18,19,20,21,22,23,24,25] Qi rfl rfl rfl h40 (.cons ?_ (.cons ?_ (.cons ?_ (.cons ?_ (.cons ?_ (.cons ?_ (.cons ?_ (.cons ?_ (.cons ?_ (.cons ?_ (.cons ?_ (.cons ?_ (.cons ?_ (.cons ?_ (.cons ?_ (.cons ?_ (.cons ?_ (.cons ?_ (.cons ?_ (.cons ?_ (.cons ?_ (.cons ?_ (.cons ?_ (.cons ?_ .nil)))))))))))))))))))))))) (λ q3 w hq5 h=>?_)
     ·intro q3 w Γx Ωx h
      refine OpS.mv rfl rfl rfl ?_
      exact du h
     ·intro q3 w Γx Ωx h
      refine OpS.mv rfl rfl rfl ?_
      exact du h
     ·intro q3 w Γx Ωx h
      refine OpS.fbox (o3:=1) h .z PA.z Qho rfl rfl rfl rfl ?_
      exact du h
     ·intro q3 w Γx Ωx h
      refine OpS.loadBi h .z PA.a (Get.fld Qf.f1) ty3 rfl rfl rfl ?_
      exact du h
     ·intro q3 w Γx Ωx h
      refine OpS.bin rfl rfl rfl rfl rfl ?_
      exact du h
     ·intro q3 w Γx Ωx h
      refine OpS.pick rfl rfl rfl rfl ?_
      exact du h
     ·intro q3 w Γx Ωx h
      refine OpS.mv rfl rfl rfl ?_
      exact ⟨undef,(congrArg (λ z_=>some (Value.bool z_)) e11),trivial,h⟩
     ·intro q3 w Γx Ωx h
      refine OpS.fbox (o3:=1) h .z PA.z Qho rfl rfl rfl rfl ?_
      exact du h
     ·intro q3 w Γx Ωx h
      refine OpS.loadBi h .z PA.a (Get.fld Qf.f1) ty3 rfl rfl rfl ?_
      exact du h
     ·intro q3 w Γx Ωx h
      refine OpS.fbox (o3:=0) h .z PA.z Qcx rfl rfl rfl rfl ?_
      exact du h
     ·intro q3 w Γx Ωx h
      refine OpS.loadBi h .z PA.a (Get.fld Qf.f0) ty3 rfl rfl rfl ?_
      exact du h
     ·intro q3 w Γx Ωx h
      refine OpS.bin rfl rfl rfl rfl rfl ?_
      exact du h
     ·intro q3 w Γx Ωx h
      refine OpS.pick rfl rfl rfl rfl ?_
      exact du h
     ·intro q3 w Γx Ωx h
      refine OpS.mv rfl rfl rfl ?_
      exact ⟨undef,(congrArg (λ z_=>some (Value.bool z_)) e13),trivial,h⟩
     ·intro q3 w Γx Ωx h
      refine OpS.fbox (o3:=0) h .z PA.z Qcx rfl rfl rfl rfl ?_
      exact du h
     ·intro q3 w Γx Ωx h
      refine OpS.loadBi h .z PA.a (Get.fld Qf.f0) ty3 rfl rfl rfl ?_
      exact du h
     ·intro q3 w Γx Ωx h
      refine OpS.fbox (o3:=1) h .z PA.z Qho rfl rfl rfl rfl ?_
      exact du h
     ·intro q3 w Γx Ωx h
      refine OpS.loadBi h .z PA.a (Get.fld Qf.f1) ty3 rfl rfl rfl ?_
      exact du h
     ·intro q3 w Γx Ωx h
      refine OpS.bin rfl rfl rfl rfl rfl ?_
      exact du h
     ·intro q3 w Γx Ωx h
      refine OpS.mv rfl rfl rfl ?_
      exact du h
     ·intro q3 w Γx Ωx h
      refine OpS.nchk h .z rfl rfl rfl ?_
      exact du h
     ·intro q3 w Γx Ωx h
      refine OpS.fbox (o3:=2) h .z PA.z Qkf rfl rfl rfl rfl ?_
      exact du h
     ·intro q3 w Γx Ωx h
      refine OpS.loadBi h .z PA.a (GetS.ok (GetS.iso _ (GetS.there (GetS.there (GetS.here GetS.id))))) ty3 rfl rfl rfl ?_
      exact du h
     ·intro q3 w Γx Ωx h
      refine OpS.bin rfl rfl rfl rfl rfl ?_
      exact du h
     have h41:=h
     refine gb rfl (gk rfl (ga rfl ?_))
     obtain ⟨x8,e15,hF⟩:=Qh hF
     refine RunL.nameb e15 ?_
     refine nil (Run.slim [(6,u1),(8,(q1 16)),(9,.bool x8)] ⟨rfl,rfl,rfl,trivial⟩ ?_)
     exact hj2 (x8) _ _ ⟨rfl,(h41.facts .nil).picks (.cons (.s (.s .z)) (.cons (.s .z) (.cons .z (.cons .z (.cons .z .nil)))))⟩ hF
    have hG:=hF
    subst e14
    have hF:=hG
    refine Run.drawV (Ωs:=[(true,.box 174 Qf.rep u1 Qf.z),(false,.lnk qd v0_0 a0.d),(false,.slice 200 Qe.rep v0_1 a0.records)]) [.k 52 (.bool true),.k 53 (.bool true),.kr 54 (padd (q1 16) 1) [1],.kr 55 (.int .i64 y2) [1],.k 56 (.bool (decide (y2≥1))),.k 57 (.bool (decide (y2≥1))),.k 58 (.bool true),.kr 59 (padd (q1 16) 1) [1],.kr 60 (.int .i64 y2) [1],.kr 61 (padd (q1 16) 0) [1],.kr 62 (.int .i64 y1) [1],.k 63 (.bool (decide (y2≤y1))),.k 64 (.bool (decide (y2≤y1))),.k 65 (.bool false),.k 66 undef,.k 67 undef,.k 68 undef,.k 69 undef,.k 70 undef,.k 71 undef,.k 72 undef,.k 73 undef,.k 74 undef,.k 75 undef] [[],[0],[1],[2,1],[3,1],[1,4],[5],[6],[7,6],[6],[9,6],[8,10,6],[6,11],[12],[13],[13],[13],[13],[13],[13],[13],[13],[13],[13]] [[(false,.box 169 (Qb.repW v0_0 v0_1) v0 a0)],[(true,.box 174 Qf.rep (q1 16) (⟨y1,y2,(bOr .u16 (IntKind.u16.wrap x2) (bShl .u16 (IntKind.u16.wrap x3) 8))⟩:Qf))]] [0,1,2,3,4,5,6,7,8,9,10,11,12,13,14,15,16,17,18,19,20,21,22,23,24,25] Qi rfl rfl rfl h40 (.cons ?_ (.cons ?_ (.cons ?_ (.cons ?_ (.cons ?_ (.cons ?_ (.cons ?_ (.cons ?_ (.cons ?_ (.cons ?_ (.cons ?_ (.cons ?_ (.cons ?_ (.cons ?_ (.cons (dp λ _=>rfl) (.cons (dp λ _=>rfl) (.cons (dp λ _=>rfl) (.cons (dp λ _=>rfl) (.cons (dp λ _=>rfl) (.cons (dp λ _=>rfl) (.cons (dp λ _=>rfl) (.cons (dp λ _=>rfl) (.cons (dp λ _=>rfl) (.cons (dp λ _=>rfl) .nil)))))))))))))))))))))))) (λ q3 w hq6 h=>?_)
    ·intro q3 w Γx Ωx h
     refine OpS.mv rfl rfl rfl ?_
     exact du h
    ·intro q3 w Γx Ωx h
     refine OpS.mv rfl rfl rfl ?_
     exact du h
    ·intro q3 w Γx Ωx h
     refine OpS.fbox (o3:=1) h .z PA.z Qho rfl rfl rfl rfl ?_
     exact du h
    ·intro q3 w Γx Ωx h
     refine OpS.loadBi h .z PA.a (Get.fld Qf.f1) ty3 rfl rfl rfl ?_
     exact du h
    ·intro q3 w Γx Ωx h
     refine OpS.bin rfl rfl rfl rfl rfl ?_
     exact du h
    ·intro q3 w Γx Ωx h
     refine OpS.pick rfl rfl rfl rfl ?_
     exact du h
    ·intro q3 w Γx Ωx h
     refine OpS.mv rfl rfl rfl ?_
     exact ⟨undef,(congrArg (λ z_=>some (Value.bool z_)) e11),trivial,h⟩
    ·intro q3 w Γx Ωx h
     refine OpS.fbox (o3:=1) h .z PA.z Qho rfl rfl rfl rfl ?_
     exact du h
    ·intro q3 w Γx Ωx h
     refine OpS.loadBi h .z PA.a (Get.fld Qf.f1) ty3 rfl rfl rfl ?_
     exact du h
    ·intro q3 w Γx Ωx h
     refine OpS.fbox (o3:=0) h .z PA.z Qcx rfl rfl rfl rfl ?_
     exact du h
    ·intro q3 w Γx Ωx h
     refine OpS.loadBi h .z PA.a (Get.fld Qf.f0) ty3 rfl rfl rfl ?_
     exact du h
    ·intro q3 w Γx Ωx h
     refine OpS.bin rfl rfl rfl rfl rfl ?_
     exact du h
    ·intro q3 w Γx Ωx h
     refine OpS.pick rfl rfl rfl rfl ?_
     exact du h
    ·intro q3 w Γx Ωx h
     refine OpS.mv rfl rfl rfl ?_
     exact ⟨undef,(congrArg (λ z_=>some (Value.bool z_)) e13),trivial,h⟩
    have h42:=h
    refine gp rfl (gk rfl (ga rfl (nil (Run.slim [(6,u1),(8,(q1 16)),(9,.bool false)] ⟨rfl,rfl,rfl,trivial⟩ ?_))))
    exact hj2 (false) _ _ ⟨rfl,(h42.facts .nil).picks (.cons (.s (.s .z)) (.cons (.s .z) (.cons .z (.cons .z (.cons .z .nil)))))⟩ hF
   have hG:=hF
   subst e12
   have hF:=hG
   refine Run.drawV (Ωs:=[(true,.box 174 Qf.rep u1 Qf.z),(false,.lnk qd v0_0 a0.d),(false,.slice 200 Qe.rep v0_1 a0.records)]) [.k 52 (.bool true),.k 53 (.bool true),.kr 54 (padd (q1 16) 1) [1],.kr 55 (.int .i64 y2) [1],.k 56 (.bool (decide (y2≥1))),.k 57 (.bool (decide (y2≥1))),.k 58 (.bool false),.k 59 undef,.k 60 undef,.k 61 undef,.k 62 undef,.k 63 undef,.k 64 (.bool false),.k 65 (.bool false),.k 66 undef,.k 67 undef,.k 68 undef,.k 69 undef,.k 70 undef,.k 71 undef,.k 72 undef,.k 73 undef,.k 74 undef,.k 75 undef] [[],[0],[1],[2,1],[3,1],[1,4],[5],[6],[6],[6],[6],[6],[6,11],[12],[13],[13],[13],[13],[13],[13],[13],[13],[13],[13]] [[(false,.box 169 (Qb.repW v0_0 v0_1) v0 a0)],[(true,.box 174 Qf.rep (q1 16) (⟨y1,y2,(bOr .u16 (IntKind.u16.wrap x2) (bShl .u16 (IntKind.u16.wrap x3) 8))⟩:Qf))]] [0,1,2,3,4,5,6,7,8,9,10,11,12,13,14,15,16,17,18,19,20,21,22,23,24,25] Qi rfl rfl rfl h40 (.cons ?_ (.cons ?_ (.cons ?_ (.cons ?_ (.cons ?_ (.cons ?_ (.cons ?_ (.cons (dp λ _=>rfl) (.cons (dp λ _=>rfl) (.cons (dp λ _=>rfl) (.cons (dp λ _=>rfl) (.cons (dp λ _=>rfl) (.cons ?_ (.cons ?_ (.cons (dp λ _=>rfl) (.cons (dp λ _=>rfl) (.cons (dp λ _=>rfl) (.cons (dp λ _=>rfl) (.cons (dp λ _=>rfl) (.cons (dp λ _=>rfl) (.cons (dp λ _=>rfl) (.cons (dp λ _=>rfl) (.cons (dp λ _=>rfl) (.cons (dp λ _=>rfl) .nil)))))))))))))))))))))))) (λ q3 w hq7 h=>?_)
   ·intro q3 w Γx Ωx h
    refine OpS.mv rfl rfl rfl ?_
    exact du h
   ·intro q3 w Γx Ωx h
    refine OpS.mv rfl rfl rfl ?_
    exact du h
   ·intro q3 w Γx Ωx h
    refine OpS.fbox (o3:=1) h .z PA.z Qho rfl rfl rfl rfl ?_
    exact du h
   ·intro q3 w Γx Ωx h
    refine OpS.loadBi h .z PA.a (Get.fld Qf.f1) ty3 rfl rfl rfl ?_
    exact du h
   ·intro q3 w Γx Ωx h
    refine OpS.bin rfl rfl rfl rfl rfl ?_
    exact du h
   ·intro q3 w Γx Ωx h
    refine OpS.pick rfl rfl rfl rfl ?_
    exact du h
   ·intro q3 w Γx Ωx h
    refine OpS.mv rfl rfl rfl ?_
    exact ⟨undef,(congrArg (λ z_=>some (Value.bool z_)) e11),trivial,h⟩
   ·intro q3 w Γx Ωx h
    refine OpS.pick rfl rfl rfl rfl ?_
    exact du h
   ·intro q3 w Γx Ωx h
    refine OpS.mv rfl rfl rfl ?_
    exact du h
   have h43:=h
   refine gp rfl (gk rfl (ga rfl (nil (Run.slim [(6,u1),(8,(q1 16)),(9,.bool false)] ⟨rfl,rfl,rfl,trivial⟩ ?_))))
   exact hj2 (false) _ _ ⟨rfl,(h43.facts .nil).picks (.cons (.s (.s .z)) (.cons (.s .z) (.cons .z (.cons .z (.cons .z .nil)))))⟩ hF
  have hG:=hF
  subst e10
  have hF:=hG
  refine Run.drawV (Ωs:=[(true,.box 174 Qf.rep u1 Qf.z),(false,.lnk qd v0_0 a0.d),(false,.slice 200 Qe.rep v0_1 a0.records)]) [.k 52 (.bool false),.k 53 (.bool false),.k 54 undef,.k 55 undef,.k 56 undef,.k 57 (.bool false),.k 58 (.bool false),.k 59 undef,.k 60 undef,.k 61 undef,.k 62 undef,.k 63 undef,.k 64 (.bool false),.k 65 (.bool false),.k 66 undef,.k 67 undef,.k 68 undef,.k 69 undef,.k 70 undef,.k 71 undef,.k 72 undef,.k 73 undef,.k 74 undef,.k 75 undef] [[],[0],[1],[1],[1],[1,4],[5],[6],[6],[6],[6],[6],[6,11],[12],[13],[13],[13],[13],[13],[13],[13],[13],[13],[13]] [[(false,.box 169 (Qb.repW v0_0 v0_1) v0 a0)],[(true,.box 174 Qf.rep (q1 16) (⟨y1,y2,(bOr .u16 (IntKind.u16.wrap x2) (bShl .u16 (IntKind.u16.wrap x3) 8))⟩:Qf))]] [0,1,2,3,4,5,6,7,8,9,10,11,12,13,14,15,16,17,18,19,20,21,22,23,24,25] Qi rfl rfl rfl h40 (.cons ?_ (.cons ?_ (.cons (dp λ _=>rfl) (.cons (dp λ _=>rfl) (.cons (dp λ _=>rfl) (.cons ?_ (.cons ?_ (.cons (dp λ _=>rfl) (.cons (dp λ _=>rfl) (.cons (dp λ _=>rfl) (.cons (dp λ _=>rfl) (.cons (dp λ _=>rfl) (.cons ?_ (.cons ?_ (.cons (dp λ _=>rfl) (.cons (dp λ _=>rfl) (.cons (dp λ _=>rfl) (.cons (dp λ _=>rfl) (.cons (dp λ _=>rfl) (.cons (dp λ _=>rfl) (.cons (dp λ _=>rfl) (.cons (dp λ _=>rfl) (.cons (dp λ _=>rfl) (.cons (dp λ _=>rfl) .nil)))))))))))))))))))))))) (λ q3 w hq8 h=>?_)
  ·intro q3 w Γx Ωx h
   refine OpS.mv rfl rfl rfl ?_
   exact du h
  ·intro q3 w Γx Ωx h
   refine OpS.mv rfl rfl rfl ?_
   exact du h
  ·intro q3 w Γx Ωx h
   refine OpS.pick rfl rfl rfl rfl ?_
   exact du h
  ·intro q3 w Γx Ωx h
   refine OpS.mv rfl rfl rfl ?_
   exact du h
  ·intro q3 w Γx Ωx h
   refine OpS.pick rfl rfl rfl rfl ?_
   exact du h
  ·intro q3 w Γx Ωx h
   refine OpS.mv rfl rfl rfl ?_
   exact du h
  have h44:=h
  refine gp rfl (gk rfl (ga rfl (nil (Run.slim [(6,u1),(8,(q1 16)),(9,.bool false)] ⟨rfl,rfl,rfl,trivial⟩ ?_))))
  exact hj2 (false) _ _ ⟨rfl,(h44.facts .nil).picks (.cons (.s (.s .z)) (.cons (.s .z) (.cons .z (.cons .z (.cons .z .nil)))))⟩ hF
 have h45:=h21.picks (.cons .z (.cons (.s .z) (.cons .z (.cons .z (.cons .z .nil)))))
 obtain ⟨x9,e16,hF⟩:=Qa hF
 obtain ⟨x10,e17,hF⟩:=Qh hF
 refine Qap hF (λ e18 hF=>?_) (λ e18 hF=>?_)
 ·have hG:=hF
  subst e18
  have hF:=hG
  obtain ⟨x11,e19,hF⟩:=Qh hF
  refine Qap hF (λ e20 hF=>?_) (λ e20 hF=>?_)
  ·have hG:=hF
   subst e20
   have hF:=hG
   obtain ⟨x12,e21,hF⟩:=Qh hF
   refine Qap hF (λ e22 hF=>?_) (λ e22 hF=>?_)
   ·have hG:=hF
    subst e22
    have hF:=hG
    obtain ⟨e23,hF⟩:=Qr hF
    refine Run.drawV (Ωs:=[(true,.box 174 Qf.rep u1 Qf.z),(false,.lnk qd v0_0 a0.d),(false,.slice 200 Qe.rep v0_1 a0.records)]) [.k 26 v1,.f 27 (λ u_=>[(false,.ptr (Rep.int .u8) u_ x9)]),.k 28 (.int .u8 x9),.k 29 (.bool (x9==0)),.k 30 (.bool true),.kr 31 (padd (q1 16) 0) [0],.kr 32 (.int .i64 y1) [0],.k 33 (.bool (decide (y1≥1))),.k 34 (.bool (decide (y1≥1))),.k 35 (.bool true),.kr 36 (padd (q1 16) 0) [0],.kr 37 (.int .i64 y1) [0],.k 38 (.bool (decide (y1≤2147483648))),.k 39 (.bool (decide (y1≤2147483648))),.k 40 (.bool true),.kr 41 (padd (q1 16) 0) [0],.kr 42 (.int .i64 y1) [0],.k 43 (.int .i64 (IntKind.i64.wrap (y1-1))),.k 44 v0,.kr 45 v0 [1],.kr 46 (padd v0 2) [1],.kr 47 (.int .i64 a0.sectors) [1],.k 48 (.int .i64 (Int.tmod (IntKind.i64.wrap (y1-1)) a0.sectors)),.k 49 (.int .i64 a2)] [[],[0],[1],[2],[3],[4],[5,4],[6,4],[4,7],[8],[9],[10,9],[11,9],[9,12],[13],[14],[15,14],[16,14],[14],[18,14],[19,14],[20,14],[17,21,14],[14]] [[(true,.box 174 Qf.rep (q1 16) (⟨y1,y2,(bOr .u16 (IntKind.u16.wrap x2) (bShl .u16 (IntKind.u16.wrap x3) 8))⟩:Qf))],[(false,.box 169 (Qb.repW v0_0 v0_1) v0 a0)]] [0,1,2,3,4,5,6,7,8,9,10,11,12,13,14,15,16,17,18,19,20,21,22,23,24,25] Qi rfl rfl rfl h45 (.cons ?_ (.cons ?_ (.cons ?_ (.cons ?_ (.cons ?_ (.cons ?_ (.cons ?_ (.cons ?_ (.cons ?_ (.cons ?_ (.cons ?_ (.cons ?_ (.cons ?_ (.cons ?_ (.cons ?_ (.cons ?_ (.cons ?_ (.cons ?_ (.cons ?_ (.cons ?_ (.cons ?_ (.cons ?_ (.cons ?_ (.cons ?_ .nil)))))))))))))))))))))))) (λ q4 w hq9 h=>?_)
    ·intro q4 w Γx Ωx h
     refine OpS.mv rfl rfl rfl ?_
     exact du h
    ·intro q4 w Γx Ωx h
     refine OpS.iptr h Tryz.underlying24 ty5 rfl rfl rfl rfl (V.at (.s (.s (.s (.s .z))))) e16 (λ u h47=>?_)
     exact ⟨u,rfl,trivial,h47⟩
    ·intro q4 w Γx Ωx h
     refine OpS.loadi h ty5 rfl rfl rfl .z ?_
     exact du h
    ·intro q4 w Γx Ωx h
     refine OpS.bin rfl rfl rfl rfl rfl ?_
     exact du h
    ·intro q4 w Γx Ωx h
     refine OpS.mv rfl rfl rfl ?_
     exact ⟨undef,(congrArg (λ z_=>some (Value.bool z_)) e17),trivial,h⟩
    ·intro q4 w Γx Ωx h
     refine OpS.fbox (o3:=0) h .z PA.z Qcx rfl rfl rfl rfl ?_
     exact du h
    ·intro q4 w Γx Ωx h
     refine OpS.loadBi h .z PA.a (Get.fld Qf.f0) ty3 rfl rfl rfl ?_
     exact du h
    ·intro q4 w Γx Ωx h
     refine OpS.bin rfl rfl rfl rfl rfl ?_
     exact du h
    ·intro q4 w Γx Ωx h
     refine OpS.pick rfl rfl rfl rfl ?_
     exact du h
    ·intro q4 w Γx Ωx h
     refine OpS.mv rfl rfl rfl ?_
     exact ⟨undef,(congrArg (λ z_=>some (Value.bool z_)) e19),trivial,h⟩
    ·intro q4 w Γx Ωx h
     refine OpS.fbox (o3:=0) h .z PA.z Qcx rfl rfl rfl rfl ?_
     exact du h
    ·intro q4 w Γx Ωx h
     refine OpS.loadBi h .z PA.a (Get.fld Qf.f0) ty3 rfl rfl rfl ?_
     exact du h
    ·intro q4 w Γx Ωx h
     refine OpS.bin rfl rfl rfl rfl rfl ?_
     exact du h
    ·intro q4 w Γx Ωx h
     refine OpS.pick rfl rfl rfl rfl ?_
     exact du h
    ·intro q4 w Γx Ωx h
     refine OpS.mv rfl rfl rfl ?_
     exact ⟨undef,(congrArg (λ z_=>some (Value.bool z_)) e21),trivial,h⟩
    ·intro q4 w Γx Ωx h
     refine OpS.fbox (o3:=0) h .z PA.z Qcx rfl rfl rfl rfl ?_
     exact du h
    ·intro q4 w Γx Ωx h
     refine OpS.loadBi h .z PA.a (Get.fld Qf.f0) ty3 rfl rfl rfl ?_
     exact du h
    ·intro q4 w Γx Ωx h
     refine OpS.bin rfl rfl rfl rfl rfl ?_
     exact du h
    ·intro q4 w Γx Ωx h
     refine OpS.mv rfl rfl rfl ?_
     exact du h
    ·intro q4 w Γx Ωx h
     refine OpS.nchk h .z rfl rfl rfl ?_
     exact du h
    ·intro q4 w Γx Ωx h
     refine OpS.fbox (o3:=2) h .z PA.z Qkf rfl rfl rfl rfl ?_
     exact du h
    ·intro q4 w Γx Ωx h
     refine OpS.loadBi h .z PA.a (GetS.ok (GetS.iso _ (GetS.there (GetS.there (GetS.here GetS.id))))) ty3 rfl rfl rfl ?_
     exact du h
    ·intro q4 w Γx Ωx h
     refine OpS.rem rfl rfl rfl rfl e23 ?_
     exact du h
    ·intro q4 w Γx Ωx h
     refine OpS.mv rfl rfl rfl ?_
     exact du h
    have h48:=h
    refine gb rfl (gk rfl (ga rfl ?_))
    obtain ⟨x13,e24,hF⟩:=Qh hF
    refine RunL.nameb e24 ?_
    refine nil (Run.slim [(9,.bool x13),(8,(q1 16)),(6,u1),(0,v0)] ⟨rfl,rfl,rfl,rfl,trivial⟩ ?_)
    refine Run.slim [(0,v0),(6,u1),(8,(q1 16)),(9,.bool x13)] ⟨rfl,rfl,rfl,rfl,trivial⟩ ?_
    exact hj1 (x13) _ _ ⟨rfl,(h48.facts .nil).picks (.cons (.s .z) (.cons (.s .z) (.cons .z (.cons .z (.cons .z .nil)))))⟩ hF
   have hG:=hF
   subst e22
   have hF:=hG
   refine Run.drawV (Ωs:=[(true,.box 174 Qf.rep u1 Qf.z),(false,.lnk qd v0_0 a0.d),(false,.slice 200 Qe.rep v0_1 a0.records)]) [.k 26 v1,.f 27 (λ u_=>[(false,.ptr (Rep.int .u8) u_ x9)]),.k 28 (.int .u8 x9),.k 29 (.bool (x9==0)),.k 30 (.bool true),.kr 31 (padd (q1 16) 0) [0],.kr 32 (.int .i64 y1) [0],.k 33 (.bool (decide (y1≥1))),.k 34 (.bool (decide (y1≥1))),.k 35 (.bool true),.kr 36 (padd (q1 16) 0) [0],.kr 37 (.int .i64 y1) [0],.k 38 (.bool (decide (y1≤2147483648))),.k 39 (.bool (decide (y1≤2147483648))),.k 40 (.bool false),.k 41 undef,.k 42 undef,.k 43 undef,.k 44 undef,.k 45 undef,.k 46 undef,.k 47 undef,.k 48 undef,.k 49 undef] [[],[0],[1],[2],[3],[4],[5,4],[6,4],[4,7],[8],[9],[10,9],[11,9],[9,12],[13],[14],[14],[14],[14],[14],[14],[14],[14],[14]] [[(true,.box 174 Qf.rep (q1 16) (⟨y1,y2,(bOr .u16 (IntKind.u16.wrap x2) (bShl .u16 (IntKind.u16.wrap x3) 8))⟩:Qf))],[(false,.box 169 (Qb.repW v0_0 v0_1) v0 a0)]] [0,1,2,3,4,5,6,7,8,9,10,11,12,13,14,15,16,17,18,19,20,21,22,23,24,25] Qi rfl rfl rfl h45 (.cons ?_ (.cons ?_ (.cons ?_ (.cons ?_ (.cons ?_ (.cons ?_ (.cons ?_ (.cons ?_ (.cons ?_ (.cons ?_ (.cons ?_ (.cons ?_ (.cons ?_ (.cons ?_ (.cons ?_ (.cons (dp λ _=>rfl) (.cons (dp λ _=>rfl) (.cons (dp λ _=>rfl) (.cons (dp λ _=>rfl) (.cons (dp λ _=>rfl) (.cons (dp λ _=>rfl) (.cons (dp λ _=>rfl) (.cons (dp λ _=>rfl) (.cons (dp λ _=>rfl) .nil)))))))))))))))))))))))) (λ q4 w hq10 h=>?_)
   ·intro q4 w Γx Ωx h
    refine OpS.mv rfl rfl rfl ?_
    exact du h
   ·intro q4 w Γx Ωx h
    refine OpS.iptr h Tryz.underlying24 ty5 rfl rfl rfl rfl (V.at (.s (.s (.s (.s .z))))) e16 (λ u h49=>?_)
    exact ⟨u,rfl,trivial,h49⟩
   ·intro q4 w Γx Ωx h
    refine OpS.loadi h ty5 rfl rfl rfl .z ?_
    exact du h
   ·intro q4 w Γx Ωx h
    refine OpS.bin rfl rfl rfl rfl rfl ?_
    exact du h
   ·intro q4 w Γx Ωx h
    refine OpS.mv rfl rfl rfl ?_
    exact ⟨undef,(congrArg (λ z_=>some (Value.bool z_)) e17),trivial,h⟩
   ·intro q4 w Γx Ωx h
    refine OpS.fbox (o3:=0) h .z PA.z Qcx rfl rfl rfl rfl ?_
    exact du h
   ·intro q4 w Γx Ωx h
    refine OpS.loadBi h .z PA.a (Get.fld Qf.f0) ty3 rfl rfl rfl ?_
    exact du h
   ·intro q4 w Γx Ωx h
    refine OpS.bin rfl rfl rfl rfl rfl ?_
    exact du h
   ·intro q4 w Γx Ωx h
    refine OpS.pick rfl rfl rfl rfl ?_
    exact du h
   ·intro q4 w Γx Ωx h
    refine OpS.mv rfl rfl rfl ?_
    exact ⟨undef,(congrArg (λ z_=>some (Value.bool z_)) e19),trivial,h⟩
   ·intro q4 w Γx Ωx h
    refine OpS.fbox (o3:=0) h .z PA.z Qcx rfl rfl rfl rfl ?_
    exact du h
   ·intro q4 w Γx Ωx h
    refine OpS.loadBi h .z PA.a (Get.fld Qf.f0) ty3 rfl rfl rfl ?_
    exact du h
   ·intro q4 w Γx Ωx h
    refine OpS.bin rfl rfl rfl rfl rfl ?_
    exact du h
   ·intro q4 w Γx Ωx h
    refine OpS.pick rfl rfl rfl rfl ?_
    exact du h
   ·intro q4 w Γx Ωx h
    refine OpS.mv rfl rfl rfl ?_
    exact ⟨undef,(congrArg (λ z_=>some (Value.bool z_)) e21),trivial,h⟩
   have h50:=h
   refine gp rfl (gk rfl (ga rfl (nil (Run.slim [(9,.bool false),(8,(q1 16)),(6,u1),(0,v0)] ⟨rfl,rfl,rfl,rfl,trivial⟩ ?_))))
   refine Run.slim [(0,v0),(6,u1),(8,(q1 16)),(9,.bool false)] ⟨rfl,rfl,rfl,rfl,trivial⟩ ?_
   exact hj1 (false) _ _ ⟨rfl,(h50.facts .nil).picks (.cons (.s .z) (.cons (.s .z) (.cons .z (.cons .z (.cons .z .nil)))))⟩ hF
  have hG:=hF
  subst e20
  have hF:=hG
  refine Run.drawV (Ωs:=[(true,.box 174 Qf.rep u1 Qf.z),(false,.lnk qd v0_0 a0.d),(false,.slice 200 Qe.rep v0_1 a0.records)]) [.k 26 v1,.f 27 (λ u_=>[(false,.ptr (Rep.int .u8) u_ x9)]),.k 28 (.int .u8 x9),.k 29 (.bool (x9==0)),.k 30 (.bool true),.kr 31 (padd (q1 16) 0) [0],.kr 32 (.int .i64 y1) [0],.k 33 (.bool (decide (y1≥1))),.k 34 (.bool (decide (y1≥1))),.k 35 (.bool false),.k 36 undef,.k 37 undef,.k 38 undef,.k 39 (.bool false),.k 40 (.bool false),.k 41 undef,.k 42 undef,.k 43 undef,.k 44 undef,.k 45 undef,.k 46 undef,.k 47 undef,.k 48 undef,.k 49 undef] [[],[0],[1],[2],[3],[4],[5,4],[6,4],[4,7],[8],[9],[9],[9],[9,12],[13],[14],[14],[14],[14],[14],[14],[14],[14],[14]] [[(true,.box 174 Qf.rep (q1 16) (⟨y1,y2,(bOr .u16 (IntKind.u16.wrap x2) (bShl .u16 (IntKind.u16.wrap x3) 8))⟩:Qf))],[(false,.box 169 (Qb.repW v0_0 v0_1) v0 a0)]] [0,1,2,3,4,5,6,7,8,9,10,11,12,13,14,15,16,17,18,19,20,21,22,23,24,25] Qi rfl rfl rfl h45 (.cons ?_ (.cons ?_ (.cons ?_ (.cons ?_ (.cons ?_ (.cons ?_ (.cons ?_ (.cons ?_ (.cons ?_ (.cons ?_ (.cons (dp λ _=>rfl) (.cons (dp λ _=>rfl) (.cons (dp λ _=>rfl) (.cons ?_ (.cons ?_ (.cons (dp λ _=>rfl) (.cons (dp λ _=>rfl) (.cons (dp λ _=>rfl) (.cons (dp λ _=>rfl) (.cons (dp λ _=>rfl) (.cons (dp λ _=>rfl) (.cons (dp λ _=>rfl) (.cons (dp λ _=>rfl) (.cons (dp λ _=>rfl) .nil)))))))))))))))))))))))) (λ q4 w hq11 h=>?_)
  ·intro q4 w Γx Ωx h
   refine OpS.mv rfl rfl rfl ?_
   exact du h
  ·intro q4 w Γx Ωx h
   refine OpS.iptr h Tryz.underlying24 ty5 rfl rfl rfl rfl (V.at (.s (.s (.s (.s .z))))) e16 (λ u h51=>?_)
   exact ⟨u,rfl,trivial,h51⟩
  ·intro q4 w Γx Ωx h
   refine OpS.loadi h ty5 rfl rfl rfl .z ?_
   exact du h
  ·intro q4 w Γx Ωx h
   refine OpS.bin rfl rfl rfl rfl rfl ?_
   exact du h
  ·intro q4 w Γx Ωx h
   refine OpS.mv rfl rfl rfl ?_
   exact ⟨undef,(congrArg (λ z_=>some (Value.bool z_)) e17),trivial,h⟩
  ·intro q4 w Γx Ωx h
   refine OpS.fbox (o3:=0) h .z PA.z Qcx rfl rfl rfl rfl ?_
   exact du h
  ·intro q4 w Γx Ωx h
   refine OpS.loadBi h .z PA.a (Get.fld Qf.f0) ty3 rfl rfl rfl ?_
   exact du h
  ·intro q4 w Γx Ωx h
   refine OpS.bin rfl rfl rfl rfl rfl ?_
   exact du h
  ·intro q4 w Γx Ωx h
   refine OpS.pick rfl rfl rfl rfl ?_
   exact du h
  ·intro q4 w Γx Ωx h
   refine OpS.mv rfl rfl rfl ?_
   exact ⟨undef,(congrArg (λ z_=>some (Value.bool z_)) e19),trivial,h⟩
  ·intro q4 w Γx Ωx h
   refine OpS.pick rfl rfl rfl rfl ?_
   exact du h
  ·intro q4 w Γx Ωx h
   refine OpS.mv rfl rfl rfl ?_
   exact du h
  have h52:=h
  refine gp rfl (gk rfl (ga rfl (nil (Run.slim [(9,.bool false),(8,(q1 16)),(6,u1),(0,v0)] ⟨rfl,rfl,rfl,rfl,trivial⟩ ?_))))
  refine Run.slim [(0,v0),(6,u1),(8,(q1 16)),(9,.bool false)] ⟨rfl,rfl,rfl,rfl,trivial⟩ ?_
  exact hj1 (false) _ _ ⟨rfl,(h52.facts .nil).picks (.cons (.s .z) (.cons (.s .z) (.cons .z (.cons .z (.cons .z .nil)))))⟩ hF
 have hG:=hF
 subst e18
 have hF:=hG
 refine Run.drawV (Ωs:=[(true,.box 174 Qf.rep u1 Qf.z),(false,.lnk qd v0_0 a0.d),(false,.slice 200 Qe.rep v0_1 a0.records)]) [.k 26 v1,.f 27 (λ u_=>[(false,.ptr (Rep.int .u8) u_ x9)]),.k 28 (.int .u8 x9),.k 29 (.bool (x9==0)),.k 30 (.bool false),.k 31 undef,.k 32 undef,.k 33 undef,.k 34 (.bool false),.k 35 (.bool false),.k 36 undef,.k 37 undef,.k 38 undef,.k 39 (.bool false),.k 40 (.bool false),.k 41 undef,.k 42 undef,.k 43 undef,.k 44 undef,.k 45 undef,.k 46 undef,.k 47 undef,.k 48 undef,.k 49 undef] [[],[0],[1],[2],[3],[4],[4],[4],[4,7],[8],[9],[9],[9],[9,12],[13],[14],[14],[14],[14],[14],[14],[14],[14],[14]] [[(true,.box 174 Qf.rep (q1 16) (⟨y1,y2,(bOr .u16 (IntKind.u16.wrap x2) (bShl .u16 (IntKind.u16.wrap x3) 8))⟩:Qf))],[(false,.box 169 (Qb.repW v0_0 v0_1) v0 a0)]] [0,1,2,3,4,5,6,7,8,9,10,11,12,13,14,15,16,17,18,19,20,21,22,23,24,25] Qi rfl rfl rfl h45 (.cons ?_ (.cons ?_ (.cons ?_ (.cons ?_ (.cons ?_ (.cons (dp λ _=>rfl) (.cons (dp λ _=>rfl) (.cons (dp λ _=>rfl) (.cons ?_ (.cons ?_ (.cons (dp λ _=>rfl) (.cons (dp λ _=>rfl) (.cons (dp λ _=>rfl) (.cons ?_ (.cons ?_ (.cons (dp λ _=>rfl) (.cons (dp λ _=>rfl) (.cons (dp λ _=>rfl) (.cons (dp λ _=>rfl) (.cons (dp λ _=>rfl) (.cons (dp λ _=>rfl) (.cons (dp λ _=>rfl) (.cons (dp λ _=>rfl) (.cons (dp λ _=>rfl) .nil)))))))))))))))))))))))) (λ q4 w hq12 h=>?_)
 ·intro q4 w Γx Ωx h
  refine OpS.mv rfl rfl rfl ?_
  exact du h
 ·intro q4 w Γx Ωx h
  refine OpS.iptr h Tryz.underlying24 ty5 rfl rfl rfl rfl (V.at (.s (.s (.s (.s .z))))) e16 (λ u h53=>?_)
  exact ⟨u,rfl,trivial,h53⟩
 ·intro q4 w Γx Ωx h
  refine OpS.loadi h ty5 rfl rfl rfl .z ?_
  exact du h
 ·intro q4 w Γx Ωx h
  refine OpS.bin rfl rfl rfl rfl rfl ?_
  exact du h
 ·intro q4 w Γx Ωx h
  refine OpS.mv rfl rfl rfl ?_
  exact ⟨undef,(congrArg (λ z_=>some (Value.bool z_)) e17),trivial,h⟩
 ·intro q4 w Γx Ωx h
  refine OpS.pick rfl rfl rfl rfl ?_
  exact du h
 ·intro q4 w Γx Ωx h
  refine OpS.mv rfl rfl rfl ?_
  exact du h
 ·intro q4 w Γx Ωx h
  refine OpS.pick rfl rfl rfl rfl ?_
  exact du h
 ·intro q4 w Γx Ωx h
  refine OpS.mv rfl rfl rfl ?_
  exact du h
 have h54:=h
 refine gp rfl (gk rfl (ga rfl (nil (Run.slim [(9,.bool false),(8,(q1 16)),(6,u1),(0,v0)] ⟨rfl,rfl,rfl,rfl,trivial⟩ ?_))))
 refine Run.slim [(0,v0),(6,u1),(8,(q1 16)),(9,.bool false)] ⟨rfl,rfl,rfl,rfl,trivial⟩ ?_
 exact hj1 (false) _ _ ⟨rfl,(h54.facts .nil).picks (.cons (.s .z) (.cons (.s .z) (.cons .z (.cons .z (.cons .z .nil)))))⟩ hF
theorem Qip {fuel:Nat} {a0:Int} {y:Int} (hF:Qby fuel a0=some y) {w:World} :
  Spec Tryz.prog 85 [.int .i64 a0].toArray w [] [] (λ v Γr Ωr Ωo=>v=.int .i64 y∧Γr=[]∧Ωr=[]∧Ωo=[]):=by
 refine Spec.of (L:=[(0,.int .i64 a0)]) Tryz.func85 rfl ⟨rfl,trivial⟩ rfl (λ e h=>?_)
 unfold Qby at hF
 refine sr (ga rfl (nil (sr (gm rfl (gb rfl (op (OpS.quo rfl rfl rfl rfl (by decide) ?_)))))))
 refine ga rfl ?_
 obtain ⟨x1,e1,hF⟩:=Qh hF
 refine RunL.name e1 ?_
 refine nil (Run.retP rfl (.tmp rfl .nil) ?_)
 cases hF
 exact Post.mk' ⟨rfl,rfl,rfl,rfl⟩ (h.picks .nil) .nil
theorem Qmr {fuel:Nat} {a0:List Int} {a1:Int} {y:(List Int)} (hF:Qfg fuel a0 a1=some y) {w:World} {v0:Value} :
  Spec Tryz.prog 146 [v0,.int .i64 a1].toArray w [(false,.val (Rep.slice (Rep.int .u8)) v0 a0)] [] (λ v Γr Ωr Ωo=>∃ u0:Value,v=u0∧Γr=[(false,.val (Rep.slice (Rep.int .u8)) u0 y)]∧Ωr=[]∧Ωo=[]):=by
 refine Spec.of (L:=[(0,v0),(1,.int .i64 a1)]) Tryz.func146 rfl ⟨rfl,rfl,trivial⟩ rfl (λ e h=>?_)
 unfold Qfg at hF
 refine sr (ga rfl (nil (sr (gm rfl (gb rfl (gb rfl (ga rfl ?_)))))))
 obtain ⟨x1,e1,hF⟩:=Qh hF
 refine RunL.name e1 ?_
 refine nil (sr (gm rfl (gm rfl (gm rfl (gb rfl ?_)))))
 obtain ⟨x2,e2,hF⟩:=Qa hF
 refine op (OpS.sub h Tryz.underlying24 ty5 rfl rfl rfl rfl rfl (V.at .z) e2 (λ u1 h1=>?_))
 refine ga rfl (nil (Run.retP rfl (.tmp rfl .nil) ?_))
 cases hF
 exact Post.mk' ⟨u1,rfl,rfl,rfl,rfl⟩ (h1.picks .nil) (.val (V.at .z) .nil)
theorem Qlg {fuel:Nat} {a0:Int} {y:Bool} (hF:Qfb fuel a0=some y) {w:World} :
  Spec Tryz.prog 204 [.int .u8 a0].toArray w [] [] (λ v Γr Ωr Ωo=>v=.bool y∧Γr=[]∧Ωr=[]∧Ωo=[]):=by
 refine Spec.of (L:=[(0,.int .u8 a0)]) Tryz.func204 rfl ⟨rfl,trivial⟩ rfl (λ e h=>?_)
 unfold Qfb at hF
 refine sr (ga rfl (nil (sr (gm rfl (gb rfl (ga rfl ?_))))))
 obtain ⟨x1,e1,hF⟩:=Qh hF
 refine RunL.nameb e1 ?_
 refine nil (Run.retP rfl (.tmp rfl .nil) ?_)
 cases hF
 exact Post.mk' ⟨rfl,rfl,rfl,rfl⟩ (h.picks .nil) .nil
theorem Qea {fuel:Nat} {a0:List Int} {y:Int} (hF:Qag fuel a0=some y) {w:World} {v0:Value} :
  Spec Tryz.prog 239 [v0,.func (.func 204) #[] #[]].toArray w [(false,.val (Rep.slice (Rep.int .u8)) v0 a0)] [] (λ v Γr Ωr Ωo=>v=.int .i64 y∧Γr=[]∧Ωr=[]∧Ωo=[]):=by
 refine Spec.of (L:=[(0,v0),(1,.func (.func 204) #[] #[])]) Tryz.func239 rfl ⟨rfl,rfl,trivial⟩ rfl (λ e h=>?_)
 unfold Qag at hF
 refine sr (ga rfl (nil (Run.seq (sr (gm rfl (op (OpS.len h Tryz.underlying24 rfl rfl rfl (V.at .z) ?_)))))))
 refine gm rfl (nil (Run.block (Run.slim [(0,v0),(1,.func (.func 204) #[] #[]),(7,.int .i64 (a0.length:Int)),(8,.int .i64 0)] ⟨rfl,rfl,rfl,rfl,trivial⟩ ?_)))
 refine Run.loopP (σ:=Int) (λ s_ L_ w_=>L_=[(0,v0),(1,.func (.func 204) #[] #[]),(7,.int .i64 (a0.length:Int)),(8,.int .i64 s_)]∧St e w_ [(false,.val (Rep.slice (Rep.int .u8)) v0 a0)] []) hF ⟨rfl,(h.facts (.atm .z .nil)).picks .nil⟩ (λ k1 hk1 s1 _ w1 hI hF=>?_)
 obtain ⟨rfl,h1⟩:=hI
 refine sr (gb rfl (nil (Run.seq ?_)))
 refine Run.ite rfl hF (λ e1 hF=>?_) (λ e1 hF=>?_)
 ·refine Run.skip (Run.seq (Run.block (sr (gm rfl (ga rfl (nil (sr (gm rfl (gm rfl (gm rfl ?_))))))))))
  obtain ⟨x1,e2,hF⟩:=Qa hF
  refine op (OpS.iptr h1 Tryz.underlying24 ty5 rfl rfl rfl rfl (V.at .z) e2 (λ u1 h2=>?_))
  refine op (OpS.loadi h2 ty5 rfl rfl rfl .z ?_)
  obtain ⟨y1,e3,hF⟩:=Qa hF
  refine op (OpS.callPF (fl:=[]) (cl:=[]) h2 Tryz.func204 rfl rfl rfl rfl rfl (vs:=[.int .u8 x1]) rfl (Qlg e3) .nil ?_)
  rintro _ w2 _ _ _ ⟨rfl,rfl,rfl,rfl⟩ h3
  have h4:=h3 rfl rfl
  simp only [ca,na] at h4
  refine nil ?_
  refine Run.ite rfl hF (λ e4 hF=>?_) (λ e4 hF=>?_)
  ·refine sr (gm rfl (ga rfl (nil (Run.retP rfl (.tmp rfl .nil) ?_))))
   cases hF
   exact Post.mk' ⟨rfl,rfl,rfl,rfl⟩ (h4.picks .nil) .nil
  refine Run.skip (Run.endBlock (Run.reg (gb rfl (gm rfl (nil (Run.slim [(0,v0),(1,.func (.func 204) #[] #[]),(7,.int .i64 (a0.length:Int)),(8,.int .i64 (IntKind.i64.wrap (s1+1)))] ⟨rfl,rfl,rfl,rfl,trivial⟩ ?_))))))
  exact hk1 ((IntKind.i64.wrap (s1+1))) _ _ ⟨rfl,(h4.facts (.atm (.s .z) .nil)).picks .nil⟩ hF
 refine Run.exit rfl ?_
 refine sr (ga rfl (nil (Run.retP rfl (.tmp rfl .nil) ?_)))
 cases hF
 exact Post.mk' ⟨rfl,rfl,rfl,rfl⟩ (h1.picks .nil) .nil
theorem Qdm {fuel:Nat} {a0:List Int} {y:Bool} (hF:Qad fuel a0=some y) {w:World} {v0:Value} :
  Spec Tryz.prog 203 [v0,.func (.func 204) #[] #[]].toArray w [(false,.val (Rep.slice (Rep.int .u8)) v0 a0)] [] (λ v Γr Ωr Ωo=>v=.bool y∧Γr=[]∧Ωr=[]∧Ωo=[]):=by
 refine Spec.of (L:=[(0,v0),(1,.func (.func 204) #[] #[])]) Tryz.func203 rfl ⟨rfl,rfl,trivial⟩ rfl (λ e h=>?_)
 unfold Qad at hF
 refine sr (ga rfl (nil (sr (gm rfl (gm rfl ?_)))))
 obtain ⟨y1,e1,hF⟩:=Qa hF
 refine op (OpS.callP h Tryz.func239 rfl rfl rfl rfl (vs:=[v0,.func (.func 204) #[] #[]]) rfl (Qea e1) (.cons (f:=false) (V.at .z) .nil) ?_)
 rintro _ w1 _ _ _ ⟨rfl,rfl,rfl,rfl⟩ h1
 have h2:=h1 rfl rfl
 simp only [ca,na] at h2
 refine gb rfl (ga rfl ?_)
 obtain ⟨x1,e2,hF⟩:=Qh hF
 refine RunL.nameb e2 ?_
 refine nil (Run.retP rfl (.tmp rfl .nil) ?_)
 cases hF
 exact Post.mk' ⟨rfl,rfl,rfl,rfl⟩ (h2.picks .nil) .nil
theorem Qin {fuel:Nat} {a0:List Int} {y:Bool} (hF:Qcq fuel a0=some y) {w:World} {v0:Value} :
  Spec Tryz.prog 147 [v0].toArray w [(false,.val (Rep.slice (Rep.int .u8)) v0 a0)] [] (λ v Γr Ωr Ωo=>v=.bool y∧Γr=[]∧Ωr=[]∧Ωo=[]):=by
 refine Spec.of (L:=[(0,v0)]) Tryz.func147 rfl ⟨rfl,trivial⟩ rfl (λ e h=>?_)
 unfold Qcq at hF
 refine sr (ga rfl (nil (sr (gm rfl ?_))))
 obtain ⟨y1,e1,hF⟩:=Qa hF
 refine op (OpS.callP h Tryz.func203 rfl rfl rfl rfl (vs:=[v0,.func (.func 204) #[] #[]]) rfl (Qdm e1) (.cons (f:=false) (V.at .z) .nil) ?_)
 rintro _ w1 _ _ _ ⟨rfl,rfl,rfl,rfl⟩ h1
 have h2:=h1 rfl rfl
 simp only [ca,na] at h2
 refine op (OpS.not rfl rfl rfl ?_)
 refine ga rfl ?_
 obtain ⟨x1,e2,hF⟩:=Qh hF
 refine RunL.nameb e2 ?_
 refine nil (Run.retP rfl (.tmp rfl .nil) ?_)
 cases hF
 exact Post.mk' ⟨rfl,rfl,rfl,rfl⟩ (h2.picks .nil) .nil
theorem Qhr {fuel:Nat} {a0:Event_} {y:Bool} (hF:Qcb fuel a0=some y) {w:World} {v0:Value} :
  Spec Tryz.prog 84 [v0].toArray w [(false,.val Event_.rep v0 a0)] [] (λ v Γr Ωr Ωo=>v=.bool y∧Γr=[]∧Ωr=[]∧Ωo=[]):=by
 refine Spec.of (L:=[(0,v0)]) Tryz.func84 rfl ⟨rfl,trivial⟩ rfl (λ e h=>?_)
 unfold Qcb at hF
 refine sr (op (OpS.boxF h rfl rfl rfl (V.at .z) (λ u1 w1 h1=>?_)))
 refine ga rfl (nil (sr (op (OpS.fbox (o3:=0) h1 .z PA.z Qnv rfl rfl rfl rfl ?_))))
 refine op (OpS.loadBi h1 .z PA.a (Get.fld Event_.f0) ty49 rfl rfl rfl ?_)
 refine gb rfl (gm rfl ?_)
 refine RunL.caseb hF (λ e1 hF=>?_) (λ e1 hF=>?_)
 ·refine op (OpS.fbox (o3:=1) h1 .z PA.z Qof rfl rfl rfl rfl ?_)
  refine op (OpS.loadBi h1 .z PA.a (Get.fld Event_.f1) ty52 rfl rfl rfl ?_)
  refine gb rfl (gk rfl (gm rfl ?_))
  refine RunL.caseb hF (λ e2 hF=>?_) (λ e2 hF=>?_)
  ·refine op (OpS.fbox (o3:=5) h1 .z PA.z Qpl rfl rfl rfl rfl ?_)
   refine op (OpS.loadBi h1 .z PA.a (Get.fld Event_.f5) ty5 rfl rfl rfl ?_)
   refine gb rfl (gk rfl (ga rfl ?_))
   obtain ⟨x1,e3,hF⟩:=Qh hF
   refine RunL.nameb e3 ?_
   refine nil (Run.retP rfl (.tmp rfl .nil) ?_)
   cases hF
   exact Post.mk' ⟨rfl,rfl,rfl,rfl⟩ (h1.picks .nil) .nil
  refine gp rfl (gp rfl (gp rfl (gk rfl (ga rfl (nil (Run.retP rfl (.tmp rfl .nil) ?_))))))
  cases hF
  exact Post.mk' ⟨rfl,rfl,rfl,rfl⟩ (h1.picks .nil) .nil
 refine gp rfl (gp rfl (gp rfl (gk rfl (gm rfl (gp rfl (gp rfl (gp rfl (gk rfl (ga rfl (nil (Run.retP rfl (.tmp rfl .nil) ?_)))))))))))
 cases hF
 exact Post.mk' ⟨rfl,rfl,rfl,rfl⟩ (h1.picks .nil) .nil
set_option maxHeartbeats 8000000 in set_option maxRecDepth 20000 in
theorem Qmx {fuel:Nat} {a0:List Int} {y:Event_×Int} (hF:Qdt fuel a0=some y) {w:World} {v0:Value} :
  Spec Tryz.prog 148 [v0].toArray w [(false,.val (Rep.slice (Rep.int .u8)) v0 a0)] [] (λ v Γr Ωr Ωo=>∃ u0:Value,v=.tuple #[u0,.int .i64 y.2]∧Γr=[(false,.val Event_.rep u0 y.1)]∧Ωr=[]∧Ωo=[]):=by
 refine Spec.of (L:=[(0,v0)]) Tryz.func148 rfl ⟨rfl,trivial⟩ rfl (λ e h=>?_)
 unfold Qdt at hF
 refine sr (op (OpS.alloc h ti55 Event_.zr rfl rfl (λ u1 w1 h1=>?_)))
 refine ga rfl (nil (Run.seq (Run.block (sr (gm rfl (op (OpS.len h1 Tryz.underlying24 rfl rfl rfl (V.at .z) ?_)))))))
 refine gb rfl (ga rfl ?_)
 obtain ⟨x1,e1,hF⟩:=Qh hF
 refine RunL.nameb e1 ?_
 refine nil ?_
 refine Run.ite rfl hF (λ e2 hF=>?_) (λ e2 hF=>?_)
 ·refine sr (op (OpS.build (f:=true) (x':=Event_.z) h1 pl55 ti55 Event_.zr rfl rfl rfl .nil (λ u2 h2=>?_)))
  refine op (OpS.storeB (f':=true) h2 .z PA.z Put.id ty55 rfl rfl rfl (V.at .z) (.inl rfl) (λ w2 h3=>?_))
  refine ga rfl (nil ?_)
  obtain ⟨u3,hu1,h4⟩:=Qaq h3 .z ty55
  refine Run.retP rfl (.cell rfl hu1 (.tmp rfl .nil)) ?_
  cases hF
  exact Post.mk' ⟨u3,rfl,rfl,rfl,rfl⟩ (h4.picks .nil) (.val (V.weak (V.at .z)) .nil)
 refine sr (gm rfl (op (OpS.len h1 Tryz.underlying24 rfl rfl rfl (V.at .z) ?_)))
 refine gb rfl (gm rfl ?_)
 refine RunL.join (σ:=Bool) (λ s_ L_ w_=>L_=[(0,v0),(2,u1),(10,.bool s_)]∧St e w_ [(false,.val (Rep.slice (Rep.int .u8)) v0 a0)] [(true,.box 55 Event_.rep u1 Event_.z)]) hF (λ s1 _ w3 hI hF=>?_) (λ j1 hj1 hF=>?_)
 ·obtain ⟨rfl,h5⟩:=hI
  refine Run.ite rfl hF (λ e3 hF=>?_) (λ e3 hF=>?_)
  ·refine sr (op (OpS.build (f:=true) (x':=Event_.z) h5 pl55 ti55 Event_.zr rfl rfl rfl .nil (λ u4 h6=>?_)))
   refine op (OpS.storeB (f':=true) h6 .z PA.z Put.id ty55 rfl rfl rfl (V.at .z) (.inl rfl) (λ w4 h7=>?_))
   refine ga rfl (nil ?_)
   obtain ⟨u5,hu2,h8⟩:=Qaq h7 .z ty55
   refine Run.retP rfl (.cell rfl hu2 (.tmp rfl .nil)) ?_
   cases hF
   exact Post.mk' ⟨u5,rfl,rfl,rfl,rfl⟩ (h8.picks .nil) (.val (V.weak (V.at .z)) .nil)
  refine Run.skip (Run.endBlock (Run.seq ?_))
  obtain ⟨x2,e4,hF⟩:=Qa hF
  obtain ⟨x3,e5,hF⟩:=Qa hF
  obtain ⟨x4,e6,hF⟩:=Qa hF
  obtain ⟨x5,e7,hF⟩:=Qa hF
  obtain ⟨x6,e8,hF⟩:=Qa hF
  obtain ⟨x7,e9,hF⟩:=Qa hF
  obtain ⟨x8,e10,hF⟩:=Qa hF
  obtain ⟨x9,e11,hF⟩:=Qa hF
  obtain ⟨x10,e12,hF⟩:=Qa hF
  obtain ⟨x11,e13,hF⟩:=Qa hF
  obtain ⟨x12,e14,hF⟩:=Qa hF
  obtain ⟨x13,e15,hF⟩:=Qa hF
  obtain ⟨e16,hF⟩:=Qr hF
  refine Run.drawV (Ωs:=[(true,.box 55 Event_.rep u1 Event_.z)]) [.k 27 v0,.f 28 (λ u_=>[(false,.ptr (Rep.int .u8) u_ x2)]),.k 29 (.int .u8 x2),.k 30 (.int .u16 (IntKind.u16.wrap x2)),.k 31 v0,.f 32 (λ u_=>[(false,.ptr (Rep.int .u8) u_ x3)]),.k 33 (.int .u8 x3),.k 34 (.int .u16 (IntKind.u16.wrap x3)),.k 35 (.int .u16 (bShl .u16 (IntKind.u16.wrap x3) 8)),.k 36 (.int .u16 (bOr .u16 (IntKind.u16.wrap x2) (bShl .u16 (IntKind.u16.wrap x3) 8))),.k 37 v0,.f 38 (λ u_=>[(false,.ptr (Rep.int .u8) u_ x4)]),.k 39 (.int .u8 x4),.k 40 (.int .u32 (IntKind.u32.wrap x4)),.k 41 v0,.f 42 (λ u_=>[(false,.ptr (Rep.int .u8) u_ x5)]),.k 43 (.int .u8 x5),.k 44 (.int .u32 (IntKind.u32.wrap x5)),.k 45 (.int .u32 (bShl .u32 (IntKind.u32.wrap x5) 8)),.k 46 (.int .u32 (bOr .u32 (IntKind.u32.wrap x4) (bShl .u32 (IntKind.u32.wrap x5) 8))),.k 47 v0,.f 48 (λ u_=>[(false,.ptr (Rep.int .u8) u_ x6)]),.k 49 (.int .u8 x6),.k 50 (.int .u32 (IntKind.u32.wrap x6)),.k 51 (.int .u32 (bShl .u32 (IntKind.u32.wrap x6) 16)),.k 52 (.int .u32 (bOr .u32 (bOr .u32 (IntKind.u32.wrap x4) (bShl .u32 (IntKind.u32.wrap x5) 8)) (bShl .u32 (IntKind.u32.wrap x6) 16))),.k 53 v0,.f 54 (λ u_=>[(false,.ptr (Rep.int .u8) u_ x7)]),.k 55 (.int .u8 x7),.k 56 (.int .u32 (IntKind.u32.wrap x7)),.k 57 (.int .u32 (bShl .u32 (IntKind.u32.wrap x7) 24)),.k 58 (.int .u32 (bOr .u32 (bOr .u32 (bOr .u32 (IntKind.u32.wrap x4) (bShl .u32 (IntKind.u32.wrap x5) 8)) (bShl .u32 (IntKind.u32.wrap x6) 16)) (bShl .u32 (IntKind.u32.wrap x7) 24))),.k 59 v0,.f 60 (λ u_=>[(false,.ptr (Rep.int .u8) u_ x8)]),.k 61 (.int .u8 x8),.k 62 (.int .u16 (IntKind.u16.wrap x8)),.k 63 v0,.f 64 (λ u_=>[(false,.ptr (Rep.int .u8) u_ x9)]),.k 65 (.int .u8 x9),.k 66 (.int .u16 (IntKind.u16.wrap x9)),.k 67 (.int .u16 (bShl .u16 (IntKind.u16.wrap x9) 8)),.k 68 (.int .u16 (bOr .u16 (IntKind.u16.wrap x8) (bShl .u16 (IntKind.u16.wrap x9) 8))),.k 69 v0,.f 70 (λ u_=>[(false,.ptr (Rep.int .u8) u_ x10)]),.k 71 (.int .u8 x10),.k 72 v0,.f 73 (λ u_=>[(false,.ptr (Rep.int .u8) u_ x11)]),.k 74 (.int .u8 x11),.k 75 v0,.f 76 (λ u_=>[(false,.ptr (Rep.int .u8) u_ x12)]),.k 77 (.int .u8 x12),.k 78 (.int .u8 (bAndNot .u8 x12 128)),.k 79 v0,.f 80 (λ u_=>[(false,.ptr (Rep.int .u8) u_ x12)]),.k 81 (.int .u8 x12),.k 82 (.int .u8 (bAnd .u8 x12 128)),.k 83 (.bool ((bAnd .u8 x12 128) != 0)),.k 84 v0,.f 85 (λ u_=>[(false,.val (Rep.slice (Rep.int .u8)) u_ x13)]),.f 86 (λ u_=>[(false,.ptr (Rep.arr 3 (Rep.int .u8)) u_ (x13.take 3))]),.f 87 (λ u_=>[(false,.val (Rep.arr 3 (Rep.int .u8)) u_ (x13.take 3))]),.f 88 (λ u_=>[(false,.val Event_.rep u_ (⟨(bOr .u16 (IntKind.u16.wrap x2) (bShl .u16 (IntKind.u16.wrap x3) 8)),(bOr .u32 (bOr .u32 (bOr .u32 (IntKind.u32.wrap x4) (bShl .u32 (IntKind.u32.wrap x5) 8)) (bShl .u32 (IntKind.u32.wrap x6) 16)) (bShl .u32 (IntKind.u32.wrap x7) 24)),(bOr .u16 (IntKind.u16.wrap x8) (bShl .u16 (IntKind.u16.wrap x9) 8)),x10,x11,(bAndNot .u8 x12 128),(bAnd .u8 x12 128) != 0,(x13.take 3)⟩:Event_))]),⟨some 4,none,λ u_=>[],λ ds_ u_=>[(true,.box 55 Event_.rep u_ Event_.z)],[],[],none⟩] [[],[0],[1],[2],[],[4],[5],[6],[7],[3,8],[],[10],[11],[12],[],[14],[15],[16],[17],[13,18],[],[20],[21],[22],[23],[19,24],[],[26],[27],[28],[29],[25,30],[],[32],[33],[34],[],[36],[37],[38],[39],[35,40],[],[42],[43],[],[45],[46],[],[48],[49],[50],[],[52],[53],[54],[55],[],[57],[58],[59],[9,31,41,44,47,51,56,60],[]] [] [0,1,2,3,4,5,6,7,8,9,10,11,12,13,14,15,16,17,18,19,20,21,22,23,24,25,26,27,28,29,30,31,32,33,34,35,36,37,38,39,40,41,42,43,44,45,46,47,48,49,50,51,52,53,54,55,56,57,58,59,60,61,62] Qi rfl rfl rfl h5 (.cons ?_ (.cons ?_ (.cons ?_ (.cons ?_ (.cons ?_ (.cons ?_ (.cons ?_ (.cons ?_ (.cons ?_ (.cons ?_ (.cons ?_ (.cons ?_ (.cons ?_ (.cons ?_ (.cons ?_ (.cons ?_ (.cons ?_ (.cons ?_ (.cons ?_ (.cons ?_ (.cons ?_ (.cons ?_ (.cons ?_ (.cons ?_ (.cons ?_ (.cons ?_ (.cons ?_ (.cons ?_ (.cons ?_ (.cons ?_ (.cons ?_ (.cons ?_ (.cons ?_ (.cons ?_ (.cons ?_ (.cons ?_ (.cons ?_ (.cons ?_ (.cons ?_ (.cons ?_ (.cons ?_ (.cons ?_ (.cons ?_ (.cons ?_ (.cons ?_ (.cons ?_ (.cons ?_ (.cons ?_ (.cons ?_ (.cons ?_ (.cons ?_ (.cons ?_ (.cons ?_ (.cons ?_ (.cons ?_ (.cons ?_ (.cons ?_ (.cons ?_ (.cons ?_ (.cons ?_ (.cons ?_ (.cons ?_ (.cons ?_ .nil))))))))))))))))))))))))))))))))))))))))))))))))))))))))))))))) (λ q1 w hq1 h=>?_)
  ·intro q1 w Γx Ωx h
   refine OpS.mv rfl rfl rfl ?_
   exact du h
  ·intro q1 w Γx Ωx h
   refine OpS.iptr h Tryz.underlying24 ty5 rfl rfl rfl rfl (V.at .z) e4 (λ u h26=>?_)
   exact ⟨u,rfl,trivial,h26⟩
  ·intro q1 w Γx Ωx h
   refine OpS.loadi h ty5 rfl rfl rfl .z ?_
   exact du h
  ·intro q1 w Γx Ωx h
   refine OpS.conv Tryz.underlying5 Tryz.underlying49 rfl rfl rfl ?_
   exact du h
  ·intro q1 w Γx Ωx h
   refine OpS.mv rfl rfl rfl ?_
   exact du h
  ·intro q1 w Γx Ωx h
   refine OpS.iptr h Tryz.underlying24 ty5 rfl rfl rfl rfl (V.at .z) e5 (λ u h27=>?_)
   exact ⟨u,rfl,trivial,h27⟩
  ·intro q1 w Γx Ωx h
   refine OpS.loadi h ty5 rfl rfl rfl .z ?_
   exact du h
  ·intro q1 w Γx Ωx h
   refine OpS.conv Tryz.underlying5 Tryz.underlying49 rfl rfl rfl ?_
   exact du h
  ·intro q1 w Γx Ωx h
   refine OpS.shl rfl rfl rfl rfl (by decide) ?_
   exact du h
  ·intro q1 w Γx Ωx h
   refine OpS.bin rfl rfl rfl rfl rfl ?_
   exact du h
  ·intro q1 w Γx Ωx h
   refine OpS.mv rfl rfl rfl ?_
   exact du h
  ·intro q1 w Γx Ωx h
   refine OpS.iptr h Tryz.underlying24 ty5 rfl rfl rfl rfl (V.at .z) e6 (λ u h28=>?_)
   exact ⟨u,rfl,trivial,h28⟩
  ·intro q1 w Γx Ωx h
   refine OpS.loadi h ty5 rfl rfl rfl .z ?_
   exact du h
  ·intro q1 w Γx Ωx h
   refine OpS.conv Tryz.underlying5 Tryz.underlying52 rfl rfl rfl ?_
   exact du h
  ·intro q1 w Γx Ωx h
   refine OpS.mv rfl rfl rfl ?_
   exact du h
  ·intro q1 w Γx Ωx h
   refine OpS.iptr h Tryz.underlying24 ty5 rfl rfl rfl rfl (V.at .z) e7 (λ u h29=>?_)
   exact ⟨u,rfl,trivial,h29⟩
  ·intro q1 w Γx Ωx h
   refine OpS.loadi h ty5 rfl rfl rfl .z ?_
   exact du h
  ·intro q1 w Γx Ωx h
   refine OpS.conv Tryz.underlying5 Tryz.underlying52 rfl rfl rfl ?_
   exact du h
  ·intro q1 w Γx Ωx h
   refine OpS.shl rfl rfl rfl rfl (by decide) ?_
   exact du h
  ·intro q1 w Γx Ωx h
   refine OpS.bin rfl rfl rfl rfl rfl ?_
   exact du h
  ·intro q1 w Γx Ωx h
   refine OpS.mv rfl rfl rfl ?_
   exact du h
  ·intro q1 w Γx Ωx h
   refine OpS.iptr h Tryz.underlying24 ty5 rfl rfl rfl rfl (V.at .z) e8 (λ u h30=>?_)
   exact ⟨u,rfl,trivial,h30⟩
  ·intro q1 w Γx Ωx h
   refine OpS.loadi h ty5 rfl rfl rfl .z ?_
   exact du h
  ·intro q1 w Γx Ωx h
   refine OpS.conv Tryz.underlying5 Tryz.underlying52 rfl rfl rfl ?_
   exact du h
  ·intro q1 w Γx Ωx h
   refine OpS.shl rfl rfl rfl rfl (by decide) ?_
   exact du h
  ·intro q1 w Γx Ωx h
   refine OpS.bin rfl rfl rfl rfl rfl ?_
   exact du h
  ·intro q1 w Γx Ωx h
   refine OpS.mv rfl rfl rfl ?_
   exact du h
  ·intro q1 w Γx Ωx h
   refine OpS.iptr h Tryz.underlying24 ty5 rfl rfl rfl rfl (V.at .z) e9 (λ u h31=>?_)
   exact ⟨u,rfl,trivial,h31⟩
  ·intro q1 w Γx Ωx h
   refine OpS.loadi h ty5 rfl rfl rfl .z ?_
   exact du h
  ·intro q1 w Γx Ωx h
   refine OpS.conv Tryz.underlying5 Tryz.underlying52 rfl rfl rfl ?_
   exact du h
  ·intro q1 w Γx Ωx h
   refine OpS.shl rfl rfl rfl rfl (by decide) ?_
   exact du h
  ·intro q1 w Γx Ωx h
   refine OpS.bin rfl rfl rfl rfl rfl ?_
   exact du h
  ·intro q1 w Γx Ωx h
   refine OpS.mv rfl rfl rfl ?_
   exact du h
  ·intro q1 w Γx Ωx h
   refine OpS.iptr h Tryz.underlying24 ty5 rfl rfl rfl rfl (V.at .z) e10 (λ u h32=>?_)
   exact ⟨u,rfl,trivial,h32⟩
  ·intro q1 w Γx Ωx h
   refine OpS.loadi h ty5 rfl rfl rfl .z ?_
   exact du h
  ·intro q1 w Γx Ωx h
   refine OpS.conv Tryz.underlying5 Tryz.underlying49 rfl rfl rfl ?_
   exact du h
  ·intro q1 w Γx Ωx h
   refine OpS.mv rfl rfl rfl ?_
   exact du h
  ·intro q1 w Γx Ωx h
   refine OpS.iptr h Tryz.underlying24 ty5 rfl rfl rfl rfl (V.at .z) e11 (λ u h33=>?_)
   exact ⟨u,rfl,trivial,h33⟩
  ·intro q1 w Γx Ωx h
   refine OpS.loadi h ty5 rfl rfl rfl .z ?_
   exact du h
  ·intro q1 w Γx Ωx h
   refine OpS.conv Tryz.underlying5 Tryz.underlying49 rfl rfl rfl ?_
   exact du h
  ·intro q1 w Γx Ωx h
   refine OpS.shl rfl rfl rfl rfl (by decide) ?_
   exact du h
  ·intro q1 w Γx Ωx h
   refine OpS.bin rfl rfl rfl rfl rfl ?_
   exact du h
  ·intro q1 w Γx Ωx h
   refine OpS.mv rfl rfl rfl ?_
   exact du h
  ·intro q1 w Γx Ωx h
   refine OpS.iptr h Tryz.underlying24 ty5 rfl rfl rfl rfl (V.at .z) e12 (λ u h34=>?_)
   exact ⟨u,rfl,trivial,h34⟩
  ·intro q1 w Γx Ωx h
   refine OpS.loadi h ty5 rfl rfl rfl .z ?_
   exact du h
  ·intro q1 w Γx Ωx h
   refine OpS.mv rfl rfl rfl ?_
   exact du h
  ·intro q1 w Γx Ωx h
   refine OpS.iptr h Tryz.underlying24 ty5 rfl rfl rfl rfl (V.at .z) e13 (λ u h35=>?_)
   exact ⟨u,rfl,trivial,h35⟩
  ·intro q1 w Γx Ωx h
   refine OpS.loadi h ty5 rfl rfl rfl .z ?_
   exact du h
  ·intro q1 w Γx Ωx h
   refine OpS.mv rfl rfl rfl ?_
   exact du h
  ·intro q1 w Γx Ωx h
   refine OpS.iptr h Tryz.underlying24 ty5 rfl rfl rfl rfl (V.at .z) e14 (λ u h36=>?_)
   exact ⟨u,rfl,trivial,h36⟩
  ·intro q1 w Γx Ωx h
   refine OpS.loadi h ty5 rfl rfl rfl .z ?_
   exact du h
  ·intro q1 w Γx Ωx h
   refine OpS.bin rfl rfl rfl rfl rfl ?_
   exact du h
  ·intro q1 w Γx Ωx h
   refine OpS.mv rfl rfl rfl ?_
   exact du h
  ·intro q1 w Γx Ωx h
   refine OpS.iptr h Tryz.underlying24 ty5 rfl rfl rfl rfl (V.at .z) e14 (λ u h37=>?_)
   exact ⟨u,rfl,trivial,h37⟩
  ·intro q1 w Γx Ωx h
   refine OpS.loadi h ty5 rfl rfl rfl .z ?_
   exact du h
  ·intro q1 w Γx Ωx h
   refine OpS.bin rfl rfl rfl rfl rfl ?_
   exact du h
  ·intro q1 w Γx Ωx h
   refine OpS.bin rfl rfl rfl rfl rfl ?_
   exact du h
  ·intro q1 w Γx Ωx h
   refine OpS.mv rfl rfl rfl ?_
   exact du h
  ·intro q1 w Γx Ωx h
   refine OpS.sub h Tryz.underlying24 ty5 rfl rfl rfl rfl rfl (V.at .z) e15 (λ u h38=>?_)
   exact ⟨u,rfl,trivial,h38⟩
  ·intro q1 w Γx Ωx h
   refine OpS.a2p h Tryz.underlying53 rfl (of_decide_eq_true e16) rfl rfl rfl (V.at .z) (λ u h39=>?_)
   exact ⟨u,rfl,trivial,h39⟩
  ·intro q1 w Γx Ωx h
   refine OpS.load h ty53 rfl rfl rfl .z (λ u h40=>?_)
   exact ⟨u,rfl,trivial,h40⟩
  ·intro q1 w Γx Ωx h
   refine OpS.build (f:=false) (x':=(⟨(bOr .u16 (IntKind.u16.wrap x2) (bShl .u16 (IntKind.u16.wrap x3) 8)),(bOr .u32 (bOr .u32 (bOr .u32 (IntKind.u32.wrap x4) (bShl .u32 (IntKind.u32.wrap x5) 8)) (bShl .u32 (IntKind.u32.wrap x6) 16)) (bShl .u32 (IntKind.u32.wrap x7) 24)),(bOr .u16 (IntKind.u16.wrap x8) (bShl .u16 (IntKind.u16.wrap x9) 8)),x10,x11,(bAndNot .u8 x12 128),(bAnd .u8 x12 128) != 0,(x13.take 3)⟩:Event_)) h pl55 ti55 Event_.zr rfl rfl rfl (.cons rfl Event_.f0 rfl V.int (.cons rfl Event_.f1 rfl V.int (.cons rfl Event_.f2 rfl V.int (.cons rfl Event_.f3 rfl V.int (.cons rfl Event_.f4 rfl V.int (.cons rfl Event_.f5 rfl V.int (.cons rfl Event_.f6 rfl V.bool (.cons rfl Event_.f7 rfl (V.at .z) .nil)))))))) (λ u h41=>?_)
   exact ⟨u,rfl,trivial,h41⟩
  ·intro q1 w Γx Ωx h
   refine OpS.alloc h ti55 Event_.zr rfl rfl (λ u w6 h42=>?_)
   exact ⟨u,rfl,trivial,h42⟩
  have h43:=h
  have h44:=(h43.pick .z).weak
  refine op (OpS.storeB (f':=false) h44 .z PA.z Put.id ty55 rfl rfl rfl (V.at (.s (.s (.s (.s (.s (.s (.s (.s (.s (.s (.s (.s (.s (.s (.s .z)))))))))))))))) (.inr rfl) (λ w7 h45=>?_))
  refine nil (Run.slim [(4,(q1 62)),(2,u1)] ⟨rfl,rfl,trivial⟩ ?_)
  refine Run.seq (sr (op (OpS.loadB h45 .z PA.z Get.id ty55 rfl rfl rfl (λ u6 h46=>?_))))
  obtain ⟨y1,e17,hF⟩:=Qa hF
  refine op (OpS.callP h46 Tryz.func84 rfl rfl rfl rfl (vs:=[u6]) rfl (Qhr e17) (.cons (f:=false) (V.at .z) .nil) ?_)
  rintro _ w8 _ _ _ ⟨rfl,rfl,rfl,rfl⟩ h47
  have h48:=h47 rfl rfl
  simp only [ca,na] at h48
  refine op (OpS.not rfl rfl rfl ?_)
  refine nil ?_
  refine Run.ite rfl hF (λ e18 hF=>?_) (λ e18 hF=>?_)
  ·refine sr (op (OpS.build (f:=true) (x':=Event_.z) h48 pl55 ti55 Event_.zr rfl rfl rfl .nil (λ u7 h49=>?_)))
   refine op (OpS.storeB (f':=true) h49 (.s .z) PA.z Put.id ty55 rfl rfl rfl (V.at .z) (.inl rfl) (λ w9 h50=>?_))
   refine ga rfl (nil ?_)
   obtain ⟨u8,hu3,h51⟩:=Qaq h50 .z ty55
   refine Run.retP rfl (.cell rfl hu3 (.tmp rfl .nil)) ?_
   cases hF
   exact Post.mk' ⟨u8,rfl,rfl,rfl,rfl⟩ (h51.picks .nil) (.val (V.weak (V.at .z)) .nil)
  refine Run.skip (sr (op (OpS.loadB h48 .z PA.z Get.id ty55 rfl rfl rfl (λ u9 h52=>?_))))
  have h53:=(h52.pick (.s .z)).weak
  refine op (OpS.storeB (f':=false) h53 .z PA.z Put.id ty55 rfl rfl rfl (V.at .z) (.inr rfl) (λ w10 h54=>?_))
  refine ga rfl (nil ?_)
  obtain ⟨u10,hu4,h55⟩:=Qaq h54 .z ty55
  refine Run.retP rfl (.cell rfl hu4 (.tmp rfl .nil)) ?_
  cases hF
  exact Post.mk' ⟨u10,rfl,rfl,rfl,rfl⟩ (h55.picks .nil) (.val (V.at .z) .nil)
 refine RunL.caseb hF (λ e19 hF=>?_) (λ e19 hF=>?_)
 ·refine gp rfl (gp rfl (gp rfl (gp rfl (gk rfl (gm rfl (gp rfl (gp rfl (gp rfl (gp rfl (gk rfl (ga rfl (nil (Run.slim [(0,v0),(2,u1),(10,.bool true)] ⟨rfl,rfl,rfl,trivial⟩ ?_)))))))))))))
  exact hj1 (true) _ _ ⟨rfl,(h1.facts (.atm .z .nil)).picks (.cons .z .nil)⟩ hF
 refine gm rfl ?_
 obtain ⟨x14,e20,hF⟩:=Qa hF
 refine op (OpS.iptr h1 Tryz.underlying24 ty5 rfl rfl rfl rfl (V.at .z) e20 (λ u11 h56=>?_))
 refine op (OpS.loadi h56 ty5 rfl rfl rfl .z ?_)
 refine gb rfl (gk rfl (gm rfl ?_))
 refine RunL.caseb hF (λ e21 hF=>?_) (λ e21 hF=>?_)
 ·refine gp rfl (gp rfl (gp rfl (gp rfl (gk rfl (ga rfl (nil (Run.slim [(0,v0),(2,u1),(10,.bool true)] ⟨rfl,rfl,rfl,trivial⟩ ?_)))))))
  exact hj1 (true) _ _ ⟨rfl,(h56.facts (.atm (.s .z) .nil)).picks (.cons .z .nil)⟩ hF
 refine gm rfl ?_
 obtain ⟨x15,e22,hF⟩:=Qa hF
 refine op (OpS.iptr h56 Tryz.underlying24 ty5 rfl rfl rfl rfl (V.at (.s .z)) e22 (λ u12 h57=>?_))
 refine op (OpS.loadi h57 ty5 rfl rfl rfl .z ?_)
 refine gb rfl (gk rfl (ga rfl ?_))
 obtain ⟨x16,e23,hF⟩:=Qh hF
 refine RunL.nameb e23 ?_
 refine nil (Run.slim [(0,v0),(2,u1),(10,.bool x16)] ⟨rfl,rfl,rfl,trivial⟩ ?_)
 exact hj1 (x16) _ _ ⟨rfl,(h57.facts (.atm (.s (.s .z)) .nil)).picks (.cons .z .nil)⟩ hF
theorem Qib {fuel:Nat} {a0:Int} {y:Int} (hF:Qbl fuel a0=some y) {w:World} :
  Spec Tryz.prog 89 [.int .u16 a0].toArray w [] [] (λ v Γr Ωr Ωo=>v=.int .u16 y∧Γr=[]∧Ωr=[]∧Ωo=[]):=by
 refine Spec.of (L:=[(0,.int .u16 a0)]) Tryz.func89 rfl ⟨rfl,trivial⟩ rfl (λ e h=>?_)
 unfold Qbl at hF
 refine sr (ga rfl (nil (Run.seq (sr (gm rfl (gb rfl (nil ?_)))))))
 refine Run.ite rfl hF (λ e1 hF=>?_) (λ e1 hF=>?_)
 ·refine sr (ga rfl (nil (Run.retP rfl (.tmp rfl .nil) ?_)))
  cases hF
  exact Post.mk' ⟨rfl,rfl,rfl,rfl⟩ (h.picks .nil) .nil
 refine Run.skip (sr (gm rfl (gb rfl (ga rfl ?_))))
 obtain ⟨x1,e2,hF⟩:=Qh hF
 refine RunL.name e2 ?_
 refine nil (Run.retP rfl (.tmp rfl .nil) ?_)
 cases hF
 exact Post.mk' ⟨rfl,rfl,rfl,rfl⟩ (h.picks .nil) .nil
set_option maxHeartbeats 8000000 in set_option maxRecDepth 20000 in
theorem Qks {fuel:Nat} {a0:Qb} {a1:List Int} {a2:Qf} {y:Qb} (hF:Qdg fuel a0 a1 a2=some y) {w:World} {v0 v0_0 qd v0_1 v1 v2:Value} :
  Spec Tryz.prog 73 [v0,v1,v2].toArray w [(false,.val (Rep.slice (Rep.int .u8)) v1 a1),(false,.val Qf.rep v2 a2)] [(false,.box 169 (Qb.repW v0_0 v0_1) v0 a0),(false,.lnk qd v0_0 a0.d),(false,.slice 200 Qe.rep v0_1 a0.records)] (λ v Γr Ωr Ωo=>∃ w0_0 w0_1:Value,v=.tuple #[]∧Γr=[]∧Ωr=[]∧Ωo=[(false,.box 169 (Qb.repW w0_0 w0_1) v0 y),(false,.lnk qd w0_0 y.d),(false,(.slice 200 Qe.rep w0_1 y.records))]):=by
 refine Spec.of (L:=[(0,v0),(1,v1),(2,v2)]) Tryz.func73 rfl ⟨rfl,rfl,rfl,trivial⟩ rfl (λ e h=>?_)
 unfold Qdg at hF
 refine sr (op (OpS.boxF h rfl rfl rfl (V.at (.s .z)) (λ u1 w1 h1=>?_)))
 refine nil (Run.seq ?_)
 refine Run.drawV (Ωs:=[(false,.lnk qd v0_0 a0.d),(false,.slice 200 Qe.rep v0_1 a0.records)]) [.kr 11 (padd u1 0) [0],.kr 12 (.int .i64 a2.sequence) [0],.k 13 v0,.kr 14 v0 [1],.kr 15 (padd v0 4) [1],.kr 16 (.int .i64 a0.newest) [1]] [[],[0],[],[2],[3],[4]] [[(false,.box 174 Qf.rep u1 a2)],[(false,.box 169 (Qb.repW v0_0 v0_1) v0 a0)]] [0,1,2,3,4,5,6,7] Qi rfl rfl rfl h1 (.cons ?_ (.cons ?_ (.cons ?_ (.cons ?_ (.cons ?_ (.cons ?_ .nil)))))) (λ q1 w hq1 h=>?_)
 ·intro q1 w Γx Ωx h
  refine OpS.fbox (o3:=0) h .z PA.z Qcx rfl rfl rfl rfl ?_
  exact du h
 ·intro q1 w Γx Ωx h
  refine OpS.loadBi h .z PA.a (Get.fld Qf.f0) ty3 rfl rfl rfl ?_
  exact du h
 ·intro q1 w Γx Ωx h
  refine OpS.mv rfl rfl rfl ?_
  exact du h
 ·intro q1 w Γx Ωx h
  refine OpS.nchk h .z rfl rfl rfl ?_
  exact du h
 ·intro q1 w Γx Ωx h
  refine OpS.fbox (o3:=4) h .z PA.z Qer rfl rfl rfl rfl ?_
  exact du h
 ·intro q1 w Γx Ωx h
  refine OpS.loadBi h .z PA.a (GetS.ok (GetS.iso _ (GetS.there (GetS.there (GetS.there (GetS.there (GetS.here GetS.id))))))) ty3 rfl rfl rfl ?_
  exact du h
 have h2:=h
 refine gb rfl (ga rfl ?_)
 obtain ⟨x1,e1,hF⟩:=Qh hF
 refine RunL.nameb e1 ?_
 refine nil (Run.seq (sr (gm rfl (nil ?_))))
 refine Run.join (σ:=Qb) (λ s_ L_ w_=>L_=[(0,v0),(1,v1),(5,u1),(6,.bool x1)]∧St e w_ [(false,.val (Rep.slice (Rep.int .u8)) v1 a1)] [(false,.box 169 (Qb.repW v0_0 v0_1) v0 s_),(false,.box 174 Qf.rep u1 a2),(false,.lnk qd v0_0 s_.d),(false,.slice 200 Qe.rep v0_1 s_.records)]) hF (λ s1 _ w2 hI hF=>?_) (λ j1 hj1 hF=>?_)
 ·obtain ⟨rfl,h3⟩:=hI
  refine sr (gm rfl (op (OpS.len h3 Tryz.underlying24 rfl rfl rfl (V.at .z) ?_)))
  obtain ⟨y1,e2,hF⟩:=Qa hF
  refine op (OpS.callP h3 Tryz.func85 rfl rfl rfl rfl (vs:=[.int .i64 (a1.length:Int)]) rfl (Qip e2) .nil ?_)
  rintro _ w3 _ _ _ ⟨rfl,rfl,rfl,rfl⟩ h4
  have h5:=h4 rfl rfl
  simp only [ca,na] at h5
  refine gm rfl (nil (Run.block (Run.slim [(0,v0),(1,v1),(5,u1),(6,.bool x1),(26,.int .i64 y1),(27,.int .i64 0)] ⟨rfl,rfl,rfl,rfl,rfl,rfl,trivial⟩ ?_)))
  refine Run.loopP (σ:=(Int×Qb)) (λ s_ L_ w_=>∃ u0_:Value,L_=[(0,v0),(1,v1),(5,u1),(6,.bool x1),(26,.int .i64 y1),(27,.int .i64 s_.1)]∧St e w_ [(false,.val (Rep.slice (Rep.int .u8)) v1 a1)] [(false,.box 169 (Qb.repW v0_0 u0_) v0 s_.2),(false,.box 174 Qf.rep u1 a2),(false,.lnk qd v0_0 s_.2.d),(false,.slice 200 Qe.rep u0_ s_.2.records)]) hF ⟨v0_1,rfl,(h5.facts (.atm .z .nil)).picks (.cons .z (.cons .z (.cons .z (.cons .z .nil))))⟩ (λ k1 hk1 s2 _ w4 hI hF=>?_)
  obtain ⟨u2,rfl,h6⟩:=hI
  refine sr (gb rfl (nil (Run.seq ?_)))
  refine Run.ite rfl hF (λ e3 hF=>?_) (λ e3 hF=>?_)
  ·refine Run.skip (Run.seq (Run.block (sr (gm rfl (ga rfl (nil (sr (gm rfl (gm rfl ?_)))))))))
   obtain ⟨y2,e4,hF⟩:=Qa hF
   have h7:=h6.front .nil
   refine op (OpS.callO h7 Tryz.func146 rfl rfl rfl rfl (vs:=[v1,.int .i64 s2.1]) rfl (Qmr e4) rfl (.cons (f:=false) (V.at .z) .nil) ?_)
   rintro u3 w5 _ _ _ ⟨_,rfl,rfl,rfl,rfl⟩ h8
   have h9:=h8
   simp only [ca,na] at h9
   refine ga rfl (nil (Run.seq (sr (gm rfl (gm rfl ?_)))))
   refine RunL.join (σ:=Bool) (λ s_ L_ w_=>L_=[(0,v0),(1,v1),(5,u1),(6,.bool x1),(7,.int .i64 s2.1),(8,u3),(26,.int .i64 y1),(27,.int .i64 s2.1),(38,.bool s_)]∧St e w_ [(false,.val (Rep.slice (Rep.int .u8)) v1 a1),(false,.val (Rep.slice (Rep.int .u8)) u3 y2)] [(false,.box 169 (Qb.repW v0_0 u2) v0 s2.2),(false,.box 174 Qf.rep u1 a2),(false,.lnk qd v0_0 s2.2.d),(false,.slice 200 Qe.rep u2 s2.2.records)]) hF (λ s3 _ w6 hI hF=>?_) (λ j2 hj2 hF=>?_)
   ·obtain ⟨rfl,h10⟩:=hI
    refine Run.join (σ:=Qb) (λ s_ L_ w_=>L_=[(0,v0),(1,v1),(5,u1),(6,.bool x1),(8,u3),(26,.int .i64 y1),(27,.int .i64 s2.1)]∧St e w_ [(false,.val (Rep.slice (Rep.int .u8)) v1 a1),(false,.val (Rep.slice (Rep.int .u8)) u3 y2)] [(false,.box 169 (Qb.repW v0_0 u2) v0 s_),(false,.box 174 Qf.rep u1 a2),(false,.lnk qd v0_0 s_.d),(false,.slice 200 Qe.rep u2 s_.records)]) hF (λ s4 _ w7 hI hF=>?_) (λ j3 hj3 hF=>?_)
    ·obtain ⟨rfl,h11⟩:=hI
     refine sr (gm rfl ?_)
     obtain ⟨x2,e5,hF⟩:=Qa hF
     refine op (OpS.sub h11 Tryz.underlying24 ty5 rfl rfl rfl rfl rfl (V.at (.s .z)) e5 (λ u4 h12=>?_))
     obtain ⟨y3,e6,hF⟩:=Qa hF
     have h13:=h12.front .nil
     refine op (OpS.callO h13 Tryz.func148 rfl rfl rfl rfl (vs:=[u4]) rfl (Qmx e6) rfl (.cons (f:=false) (V.at .z) .nil) ?_)
     rintro _ w8 _ _ _ ⟨u5,rfl,rfl,rfl,rfl⟩ h14
     have h15:=h14
     simp only [ca,na] at h15
     refine gm rfl (op (OpS.ext rfl rfl rfl rfl ?_))
     refine op (OpS.ext rfl rfl rfl rfl ?_)
     refine op (OpS.alloc h15 ti55 Event_.zr rfl rfl (λ u6 w9 h16=>?_))
     have h17:=(h16.pick .z).weak
     refine op (OpS.storeB (f':=false) h17 .z PA.z Put.id ty55 rfl rfl rfl (V.at .z) (.inr rfl) (λ w10 h18=>?_))
     refine ga rfl (nil (Run.seq (sr (gm rfl ?_))))
     obtain ⟨x3,e7,hF⟩:=Qa hF
     refine op (OpS.iptr h18 Tryz.underlying24 ty5 rfl rfl rfl rfl (V.at (.s (.s (.s .z)))) e7 (λ u7 h19=>?_))
     refine op (OpS.loadi h19 ty5 rfl rfl rfl .z ?_)
     refine gb rfl (gm rfl ?_)
     refine RunL.join (σ:=Bool) (λ s_ L_ w_=>L_=[(0,v0),(1,v1),(5,u1),(6,.bool x1),(9,u6),(26,.int .i64 y1),(27,.int .i64 s2.1),(62,.bool s_)]∧St e w_ [(false,.val (Rep.slice (Rep.int .u8)) v1 a1)] [(false,.box 169 (Qb.repW v0_0 u2) v0 s4),(false,.box 174 Qf.rep u1 a2),(false,.box 55 Event_.rep u6 y3.1),(false,.lnk qd v0_0 s4.d),(false,.slice 200 Qe.rep u2 s4.records)]) hF (λ s5 _ w11 hI hF=>?_) (λ j4 hj4 hF=>?_)
     ·obtain ⟨rfl,h20⟩:=hI
      refine Run.ite rfl hF (λ e8 hF=>?_) (λ e8 hF=>?_)
      ·refine Run.exit rfl ?_
       refine Run.reg (gb rfl (gm rfl (nil (Run.slim [(0,v0),(1,v1),(5,u1),(6,.bool x1),(26,.int .i64 y1),(27,.int .i64 (IntKind.i64.wrap (s2.1+1)))] ⟨rfl,rfl,rfl,rfl,rfl,rfl,trivial⟩ ?_))))
       exact hk1 ((IntKind.i64.wrap (s2.1+1)),s4) _ _ ⟨u2,rfl,(h20.facts (.atm .z .nil)).picks (.cons .z (.cons .z (.cons (.s .z) (.cons (.s .z) .nil))))⟩ hF
      refine Run.skip (Run.seq ?_)
      have h21:=h20.picks (.cons .z (.cons .z (.cons .z (.cons (.s .z) (.cons .z .nil)))))
      obtain ⟨x4,e9,hF⟩:=Qa hF
      refine Run.drawV (Ωs:=[(false,.lnk qd v0_0 s4.d)]) [.k 63 v0,.k 64 v0,.kr 65 v0 [0],.kr 66 (padd v0 8) [0],.kr 67 u2 [0],.kr 68 (padd u1 0) [1],.kr 69 (.int .i64 a2.sequence) [1],.fr 70 (λ u_=>[(false,.val Event_.rep u_ y3.1)]) [2],.f 71 (λ u_=>[(false,.val Qe.rep u_ (⟨a2.sequence,y3.1⟩:Qe))]),.f 72 (λ u_=>[(false,.val (Rep.slice Qe.rep) u_ ([(⟨a2.sequence,y3.1⟩:Qe)]))]),⟨some 73,none,λ u_=>[],λ ds_ u_=>[(false,.slice 200 Qe.rep u_ x4)],[3],[],none⟩] [[],[],[1],[2],[3],[],[5],[],[6,7],[8],[4,9]] [[(false,.box 169 (Qb.repW v0_0 u2) v0 s4)],[(false,.box 174 Qf.rep u1 a2)],[(false,.box 55 Event_.rep u6 y3.1)],[(false,.slice 200 Qe.rep u2 s4.records)]] [0,1,2,4,5,6,7,8,9,10,11,12,13,14] Qi rfl rfl rfl h21 (.cons ?_ (.cons ?_ (.cons ?_ (.cons ?_ (.cons ?_ (.cons ?_ (.cons ?_ (.cons ?_ (.cons ?_ (.cons ?_ (.cons ?_ .nil))))))))))) (λ q2 w hq2 h=>?_)
      ·intro q2 w Γx Ωx h
       refine OpS.mv rfl rfl rfl ?_
       exact du h
      ·intro q2 w Γx Ωx h
       refine OpS.mv rfl rfl rfl ?_
       exact du h
      ·intro q2 w Γx Ωx h
       refine OpS.nchk h .z rfl rfl rfl ?_
       exact du h
      ·intro q2 w Γx Ωx h
       refine OpS.fbox (o3:=8) h .z PA.z Qgv rfl rfl rfl rfl ?_
       exact du h
      ·intro q2 w Γx Ωx h
       refine OpS.loadR h .z PA.a (GetS.ok (GetS.iso _ (GetS.there (GetS.there (GetS.there (GetS.there (GetS.there (GetS.there (GetS.there (GetS.there (GetS.here GetS.id))))))))))) ty167 rfl rfl rfl rfl rfl ?_
       exact du h
      ·intro q2 w Γx Ωx h
       refine OpS.fbox (o3:=0) h .z PA.z Qcx rfl rfl rfl rfl ?_
       exact du h
      ·intro q2 w Γx Ωx h
       refine OpS.loadBi h .z PA.a (Get.fld Qf.f0) ty3 rfl rfl rfl ?_
       exact du h
      ·intro q2 w Γx Ωx h
       refine OpS.loadB h .z PA.z Get.id ty55 rfl rfl rfl (λ u h26=>?_)
       exact ⟨u,rfl,trivial,h26⟩
      ·intro q2 w Γx Ωx h
       refine OpS.build (f:=false) (x':=(⟨a2.sequence,y3.1⟩:Qe)) h pl200 ti200 Qe.zr rfl rfl rfl (.cons rfl Qe.f0 rfl V.int (.cons rfl Qe.f1 rfl (V.at .z) .nil)) (λ u h27=>?_)
       exact ⟨u,rfl,trivial,h27⟩
      ·intro q2 w Γx Ωx h
       refine OpS.lit (r:=Qe.rep) (f:=false) h Tryz.underlying167 ti200 rfl rfl rfl rfl rfl (.cons rfl (V.at .z) .nil) rfl rfl (λ u w14 h28=>?_)
       exact ⟨u,rfl,trivial,h28⟩
      ·intro q2 w Γx Ωx h
       refine OpS.app (f':=false) h .z Tryz.underlying167 ti200 rfl rfl rfl rfl rfl rfl rfl (V.at .z) (.inr Qe.pure) e9 (λ u w15 h29=>?_)
       exact ⟨u,rfl,trivial,h29⟩
      have h30:=h
      refine op (OpS.nchk h30 .z rfl rfl rfl ?_)
      refine op (OpS.fbox (o3:=8) h30 .z PA.z Qgv rfl rfl rfl rfl ?_)
      refine op (OpS.storeC (f':=false) (fr:=(Rep.raw (q2 10))) (r':=(Qb.repW v0_0 (q2 10))) (x':=s4) h30 .z PA.a (Chg.iso _ (Chg.there (Chg.there (Chg.there (Chg.there (Chg.there (Chg.there (Chg.there (Chg.there (Chg.here (Chg.id (by rfl)))))))))))) (Ty.like ty167 (by rfl) (by rfl)) rfl rfl rfl (V.raw (f:=false) (St.own1 h30 (.s (.s (.s .z)))) s4.records) (.inr rfl) (λ w16 h31=>?_))
      refine nil (sr (gm rfl (nil ?_)))
      refine Run.ite rfl hF (λ e10 hF=>?_) (λ e10 hF=>?_)
      ·refine Run.reg (gm rfl (op (OpS.fbox (o3:=0) h31 (.s (.s .z)) PA.z Qnv rfl rfl rfl rfl ?_)))
       refine op (OpS.loadBi h31 (.s (.s .z)) PA.a (Get.fld Event_.f0) ty49 rfl rfl rfl ?_)
       obtain ⟨y4,e11,hF⟩:=Qa hF
       refine op (OpS.callP h31 Tryz.func89 rfl rfl rfl rfl (vs:=[.int .u16 y3.1.ID]) rfl (Qib e11) .nil ?_)
       rintro _ w17 _ _ _ ⟨rfl,rfl,rfl,rfl⟩ h32
       have h33:=h32 rfl rfl
       simp only [ca,na] at h33
       refine op (OpS.nchk h33 .z rfl rfl rfl ?_)
       refine op (OpS.fbox (o3:=7) h33 .z PA.z Qjd rfl rfl rfl rfl ?_)
       obtain ⟨d1,e12,hF⟩:=Qh hF
       refine op (OpS.storeC (f':=true) (fr:=(Rep.int .u16)) (r':=(Qb.repW v0_0 (q2 10))) (x':=d1) h33 .z PA.a (Chg.of (x':={ s4 with next:=y4 }) (Chg.iso _ (Chg.there (Chg.there (Chg.there (Chg.there (Chg.there (Chg.there (Chg.there (Chg.here (Chg.id (by rfl))))))))))) e12) ty49 rfl rfl rfl V.int (.inr rfl) (λ w18 h34=>?_))
       refine nil (Run.endBlock (Run.reg (gb rfl (gm rfl (nil ?_)))))
       have h35:=St.boxJ (r':=(Qb.repW v0_0 (q2 10))) (x':={ { d1 with d:=s4.d } with records:=x4 }) (h34.pick .z) (λ _ _ hs_=>(Jn.iso _ (Jn.prod Jn.same (Jn.prod Jn.refl (Jn.prod Jn.refl (Jn.prod Jn.refl (Jn.prod Jn.refl (Jn.prod Jn.refl (Jn.prod Jn.refl (Jn.prod Jn.refl (Jn.prod Jn.same Jn.refl)))))))))))
       have h36:=St.boxJ (r':=(Qb.repW v0_0 (q2 10))) (x':={ { { { d1 with d:=s4.d } with records:=x4 } with d:=s4.d } with records:=x4 }) (h35.pick .z) (λ _ _ hs_=>(Jn.iso _ (Jn.prod Jn.same (Jn.prod Jn.refl (Jn.prod Jn.refl (Jn.prod Jn.refl (Jn.prod Jn.refl (Jn.prod Jn.refl (Jn.prod Jn.refl (Jn.prod Jn.refl (Jn.prod Jn.same Jn.refl)))))))))))
       refine Run.slim [(0,v0),(1,v1),(5,u1),(6,.bool x1),(26,.int .i64 y1),(27,.int .i64 (IntKind.i64.wrap (s2.1+1)))] ⟨rfl,rfl,rfl,rfl,rfl,rfl,trivial⟩ ?_
       exact hk1 ((IntKind.i64.wrap (s2.1+1)),{ { { { d1 with d:=s4.d } with records:=x4 } with d:=s4.d } with records:=x4 }) _ _ ⟨(q2 10),rfl,(h36.facts (.atm (.s (.s (.s .z))) .nil)).picks (.cons .z (.cons .z (.cons (.s (.s .z)) (.cons (.s .z) .nil))))⟩ hF
      refine Run.skip (Run.endBlock (Run.reg (gb rfl (gm rfl (nil ?_)))))
      have h37:=St.boxJ (r':=(Qb.repW v0_0 (q2 10))) (x':={ s4 with records:=x4 }) (h31.pick .z) (λ _ _ hs_=>(Jn.iso _ (Jn.prod Jn.same (Jn.prod Jn.refl (Jn.prod Jn.refl (Jn.prod Jn.refl (Jn.prod Jn.refl (Jn.prod Jn.refl (Jn.prod Jn.refl (Jn.prod Jn.refl (Jn.prod Jn.same Jn.refl)))))))))))
      have h38:=St.boxJ (r':=(Qb.repW v0_0 (q2 10))) (x':={ { { s4 with records:=x4 } with d:=s4.d } with records:=x4 }) (h37.pick .z) (λ _ _ hs_=>(Jn.iso _ (Jn.prod Jn.same (Jn.prod Jn.refl (Jn.prod Jn.refl (Jn.prod Jn.refl (Jn.prod Jn.refl (Jn.prod Jn.refl (Jn.prod Jn.refl (Jn.prod Jn.refl (Jn.prod Jn.same Jn.refl)))))))))))
      refine Run.slim [(0,v0),(1,v1),(5,u1),(6,.bool x1),(26,.int .i64 y1),(27,.int .i64 (IntKind.i64.wrap (s2.1+1)))] ⟨rfl,rfl,rfl,rfl,rfl,rfl,trivial⟩ ?_
      exact hk1 ((IntKind.i64.wrap (s2.1+1)),{ { { s4 with records:=x4 } with d:=s4.d } with records:=x4 }) _ _ ⟨(q2 10),rfl,(h38.facts (.atm (.s (.s (.s .z))) .nil)).picks (.cons .z (.cons .z (.cons (.s (.s .z)) (.cons (.s .z) .nil))))⟩ hF
     refine RunL.caseb hF (λ e13 hF=>?_) (λ e13 hF=>?_)
     ·refine gp rfl (gp rfl (gk rfl (gm rfl (gp rfl (gp rfl (gp rfl (gk rfl (nil (Run.slim [(0,v0),(1,v1),(5,u1),(6,.bool x1),(9,u6),(26,.int .i64 y1),(27,.int .i64 s2.1),(62,.bool true)] ⟨rfl,rfl,rfl,rfl,rfl,rfl,rfl,rfl,trivial⟩ ?_)))))))))
      exact hj4 (true) _ _ ⟨rfl,(h19.facts (.atm (.s (.s (.s .z))) .nil)).picks (.cons (.s .z) (.cons (.s .z) (.cons .z (.cons .z (.cons .z .nil)))))⟩ hF
     refine gm rfl (gb rfl (gk rfl (gm rfl ?_)))
     refine RunL.caseb hF (λ e14 hF=>?_) (λ e14 hF=>?_)
     ·refine gp rfl (gp rfl (gp rfl (gk rfl (nil (Run.slim [(0,v0),(1,v1),(5,u1),(6,.bool x1),(9,u6),(26,.int .i64 y1),(27,.int .i64 s2.1),(62,.bool true)] ⟨rfl,rfl,rfl,rfl,rfl,rfl,rfl,rfl,trivial⟩ ?_)))))
      exact hj4 (true) _ _ ⟨rfl,(h19.facts (.atm (.s (.s (.s .z))) .nil)).picks (.cons (.s .z) (.cons (.s .z) (.cons .z (.cons .z (.cons .z .nil)))))⟩ hF
     refine op (OpS.fbox (o3:=0) h19 .z PA.z Qnv rfl rfl rfl rfl ?_)
     refine op (OpS.loadBi h19 .z PA.a (Get.fld Event_.f0) ty49 rfl rfl rfl ?_)
     refine gb rfl (gk rfl (nil (Run.slim [(0,v0),(1,v1),(5,u1),(6,.bool x1),(9,u6),(26,.int .i64 y1),(27,.int .i64 s2.1),(62,.bool (y3.1.ID==0))] ⟨rfl,rfl,rfl,rfl,rfl,rfl,rfl,rfl,trivial⟩ ?_)))
     exact hj4 (y3.1.ID==0) _ _ ⟨rfl,(h19.facts (.atm (.s (.s (.s .z))) .nil)).picks (.cons (.s .z) (.cons (.s .z) (.cons .z (.cons .z (.cons .z .nil)))))⟩ hF
    refine Run.ite rfl hF (λ e15 hF=>?_) (λ e15 hF=>?_)
    ·refine Run.reg (gm rfl (gm rfl (gb rfl (op (OpS.nchk h10 .z rfl rfl rfl ?_)))))
     refine op (OpS.fbox (o3:=6) h10 .z PA.z Qiz rfl rfl rfl rfl ?_)
     obtain ⟨d2,e16,hF⟩:=Qh hF
     refine op (OpS.storeC (f':=true) (fr:=(Rep.int .i64)) (r':=(Qb.repW v0_0 u2)) (x':=d2) h10 .z PA.a (Chg.of (x':={ s2.2 with used:=(IntKind.i64.wrap (s2.1+1)) }) (Chg.iso _ (Chg.there (Chg.there (Chg.there (Chg.there (Chg.there (Chg.there (Chg.here (Chg.id (by rfl)))))))))) e16) ty3 rfl rfl rfl V.int (.inr rfl) (λ w19 h39=>?_))
     refine nil ?_
     have h40:=St.boxJ (r':=(Qb.repW v0_0 u2)) (x':={ { d2 with d:=s2.2.d } with records:=s2.2.records }) (h39.pick .z) (λ _ _ hs_=>(Jn.iso _ (Jn.prod Jn.same (Jn.prod Jn.refl (Jn.prod Jn.refl (Jn.prod Jn.refl (Jn.prod Jn.refl (Jn.prod Jn.refl (Jn.prod Jn.refl (Jn.prod Jn.refl (Jn.prod Jn.same Jn.refl)))))))))))
     have h41:=St.boxJ (r':=(Qb.repW v0_0 u2)) (x':={ { { { d2 with d:=s2.2.d } with records:=s2.2.records } with d:=s2.2.d } with records:=s2.2.records }) (h40.pick .z) (λ _ _ hs_=>(Jn.iso _ (Jn.prod Jn.same (Jn.prod Jn.refl (Jn.prod Jn.refl (Jn.prod Jn.refl (Jn.prod Jn.refl (Jn.prod Jn.refl (Jn.prod Jn.refl (Jn.prod Jn.refl (Jn.prod Jn.same Jn.refl)))))))))))
     refine Run.slim [(0,v0),(1,v1),(5,u1),(6,.bool x1),(8,u3),(26,.int .i64 y1),(27,.int .i64 s2.1)] ⟨rfl,rfl,rfl,rfl,rfl,rfl,rfl,trivial⟩ ?_
     exact hj3 ({ { { { d2 with d:=s2.2.d } with records:=s2.2.records } with d:=s2.2.d } with records:=s2.2.records }) _ _ ⟨rfl,(h41.facts (.atm .z (.atm (.s .z) .nil))).picks (.cons .z (.cons .z (.cons .z (.cons .z .nil))))⟩ hF
    refine Run.skip (Run.slim [(0,v0),(1,v1),(5,u1),(6,.bool x1),(8,u3),(26,.int .i64 y1),(27,.int .i64 s2.1)] ⟨rfl,rfl,rfl,rfl,rfl,rfl,rfl,trivial⟩ ?_)
    exact hj3 (s2.2) _ _ ⟨rfl,(h10.facts (.atm .z (.atm (.s .z) .nil))).picks (.cons .z (.cons .z (.cons .z (.cons .z .nil))))⟩ hF
   refine RunL.caseb hF (λ e17 hF=>?_) (λ e17 hF=>?_)
   ·refine gm rfl ?_
    obtain ⟨y5,e18,hF⟩:=Qa hF
    refine op (OpS.callP h9 Tryz.func147 rfl rfl rfl rfl (vs:=[u3]) rfl (Qin e18) (.cons (f:=false) (V.at .z) .nil) ?_)
    rintro _ w20 _ _ _ ⟨rfl,rfl,rfl,rfl⟩ h42
    have h43:=h42 rfl rfl
    simp only [ca,na] at h43
    refine op (OpS.not rfl rfl rfl ?_)
    refine gk rfl (nil (Run.slim [(0,v0),(1,v1),(5,u1),(6,.bool x1),(7,.int .i64 s2.1),(8,u3),(26,.int .i64 y1),(27,.int .i64 s2.1),(38,.bool (!y5))] ⟨rfl,rfl,rfl,rfl,rfl,rfl,rfl,rfl,rfl,trivial⟩ ?_))
    exact hj2 (!y5) _ _ ⟨rfl,(h43.facts (.atm (.s .z) (.atm .z .nil))).picks (.cons .z (.cons .z (.cons .z (.cons .z .nil))))⟩ hF
   refine gp rfl (gp rfl (gp rfl (gk rfl (nil (Run.slim [(0,v0),(1,v1),(5,u1),(6,.bool x1),(7,.int .i64 s2.1),(8,u3),(26,.int .i64 y1),(27,.int .i64 s2.1),(38,.bool false)] ⟨rfl,rfl,rfl,rfl,rfl,rfl,rfl,rfl,rfl,trivial⟩ ?_)))))
   exact hj2 (false) _ _ ⟨rfl,(h9.facts (.atm (.s .z) (.atm .z .nil))).picks (.cons .z (.cons .z (.cons .z (.cons .z .nil))))⟩ hF
  refine Run.exit rfl ?_
  refine Run.finP rfl .nil ?_
  cases hF
  exact Post.mk' ⟨v0_0,u2,rfl,rfl,rfl,rfl⟩ (h6.picks (.cons .z (.cons (.s .z) (.cons (.s .z) .nil)))) .nil
 refine Run.ite rfl hF (λ e19 hF=>?_) (λ e19 hF=>?_)
 ·refine Run.reg (gm rfl (op (OpS.fbox (o3:=2) h2 .z PA.z Qok rfl rfl rfl rfl ?_)))
  refine op (OpS.loadBi h2 .z PA.a (Get.fld Qf.f2) ty49 rfl rfl rfl ?_)
  refine op (OpS.nchk h2 (.s .z) rfl rfl rfl ?_)
  refine op (OpS.fbox (o3:=7) h2 (.s .z) PA.z Qjd rfl rfl rfl rfl ?_)
  obtain ⟨d3,e20,hF⟩:=Qh hF
  refine op (OpS.storeC (f':=true) (fr:=(Rep.int .u16)) (r':=(Qb.repW v0_0 v0_1)) (x':=d3) h2 (.s .z) PA.a (Chg.of (x':={ a0 with next:=a2.id }) (Chg.iso _ (Chg.there (Chg.there (Chg.there (Chg.there (Chg.there (Chg.there (Chg.there (Chg.here (Chg.id (by rfl))))))))))) e20) ty49 rfl rfl rfl V.int (.inr rfl) (λ w21 h44=>?_))
  refine nil ?_
  have h45:=St.boxJ (r':=(Qb.repW v0_0 v0_1)) (x':={ { d3 with d:=a0.d } with records:=a0.records }) (h44.pick .z) (λ _ _ hs_=>(Jn.iso _ (Jn.prod Jn.same (Jn.prod Jn.refl (Jn.prod Jn.refl (Jn.prod Jn.refl (Jn.prod Jn.refl (Jn.prod Jn.refl (Jn.prod Jn.refl (Jn.prod Jn.refl (Jn.prod Jn.same Jn.refl)))))))))))
  have h46:=St.boxJ (r':=(Qb.repW v0_0 v0_1)) (x':={ { { { d3 with d:=a0.d } with records:=a0.records } with d:=a0.d } with records:=a0.records }) (h45.pick .z) (λ _ _ hs_=>(Jn.iso _ (Jn.prod Jn.same (Jn.prod Jn.refl (Jn.prod Jn.refl (Jn.prod Jn.refl (Jn.prod Jn.refl (Jn.prod Jn.refl (Jn.prod Jn.refl (Jn.prod Jn.refl (Jn.prod Jn.same Jn.refl)))))))))))
  refine Run.slim [(0,v0),(1,v1),(5,u1),(6,.bool x1)] ⟨rfl,rfl,rfl,rfl,trivial⟩ ?_
  exact hj1 ({ { { { d3 with d:=a0.d } with records:=a0.records } with d:=a0.d } with records:=a0.records }) _ _ ⟨rfl,(h46.facts (.atm .z .nil)).picks (.cons .z (.cons .z (.cons .z (.cons .z .nil))))⟩ hF
 refine Run.skip (Run.slim [(0,v0),(1,v1),(5,u1),(6,.bool x1)] ⟨rfl,rfl,rfl,rfl,trivial⟩ ?_)
 exact hj1 (a0) _ _ ⟨rfl,(h2.facts (.atm .z .nil)).picks (.cons (.s .z) (.cons .z (.cons .z (.cons .z .nil))))⟩ hF
set_option maxHeartbeats 8000000 in set_option maxRecDepth 20000 in
theorem Qgn {fuel:Nat} {a0:Qc} {a1:Int} {a2:Int} {a3:Bool} {y:(Option Qb)×Int} (hF:Qda fuel a0 a1 a2 a3=some y) {w:World} {v0 v0_0 v0_1:Value} :
  Spec Tryz.prog 14 [v0,.int .i64 a1,.int .i64 a2,.bool a3].toArray w [] [(false,.box 166 (Qc.repW v0_0 v0_1) v0 a0),(false,.slice 5 (Rep.int .u8) v0_0 a0.bytes),(false,.slice 3 (Rep.int .i64) v0_1 a0.wear)] (λ v Γr Ωr Ωo=>∃ u0:Value,v=.tuple #[u0,.int .i64 y.2]∧Γr=[]∧Ωr=[(false,.opt (Qb.mem v0 u0) u0 y.1)]∧Ωo=[(false,.box 166 (Qc.repW v0_0 v0_1) v0 a0),(false,(.slice 5 (Rep.int .u8) v0_0 a0.bytes)),(false,(.slice 3 (Rep.int .i64) v0_1 a0.wear))]):=by
 refine Spec.of (L:=[(0,v0),(1,.int .i64 a1),(2,.int .i64 a2),(3,.bool a3)]) Tryz.func14 rfl ⟨rfl,rfl,rfl,rfl,trivial⟩ rfl (λ e h=>?_)
 unfold Qda at hF
 refine sr (ga rfl (ga rfl (nil (Run.seq (sr (gm rfl (gb rfl (gm rfl ?_))))))))
 refine RunL.join (σ:=Bool) (λ s_ L_ w_=>L_=[(0,v0),(1,.int .i64 a1),(2,.int .i64 a2),(3,.bool a3),(39,.bool s_)]∧St e w_ [] [(false,.box 166 (Qc.repW v0_0 v0_1) v0 a0),(false,.slice 5 (Rep.int .u8) v0_0 a0.bytes),(false,.slice 3 (Rep.int .i64) v0_1 a0.wear)]) hF (λ s1 _ w1 hI hF=>?_) (λ j1 hj1 hF=>?_)
 ·obtain ⟨rfl,h1⟩:=hI
  refine Run.ite rfl hF (λ e1 hF=>?_) (λ e1 hF=>?_)
  ·refine sr (ga rfl (ga rfl (nil ?_)))
   have h2:=St.none (Qb.mem v0 (.pointer none)) h1
   have h3:=(h2.pick .z).weak
   refine Run.retP rfl (.tmp rfl (.tmp rfl .nil)) ?_
   cases hF
   exact Post.mk' ⟨(.pointer none),rfl,rfl,rfl,rfl⟩ (h3.picks (.cons .z (.cons .z (.cons .z (.cons .z .nil))))) .nil
  refine Run.skip (sr (gm rfl (gm rfl (gm rfl (gm rfl ?_)))))
  have h4:=St.lnkMk h1 .z
  have h5:=St.nil 200 Qe.rep h4
  refine op (OpS.buildC (f:=true) (r:=RqB1) (x:=Qb.z) (r':=(Qb.repW v0 (.slice none 0 0))) (x':=(⟨false,a1,a2,a3,0,0,0,1,[],false,0,false,false⟩:Qb)) h5 pl169 ti169 (Zr.iso (y:=Qb.z) _ (Zr.of (Zr.prod Zr.lnk0 (Zr.prod (Zr.int .i64 0) (Zr.prod (Zr.int .i64 0) (Zr.prod (Zr.bool false) (Zr.prod (Zr.int .i64 0) (Zr.prod (Zr.int .i64 0) (Zr.prod (Zr.int .i64 0) (Zr.prod (Zr.int .u16 0) (Zr.prod (Zr.raw rfl ([]:List Qe)) (Zr.prod (Zr.bool false) (Zr.prod (Zr.int .u16 0) (Zr.prod (Zr.bool false) (Zr.prod (Zr.bool false) Zr.unit))))))))))))) (by rfl))) rfl rfl rfl (.cons (Rep.raw v0) RqB1 (Qb.repW v0 (.slice none 0 0)) Qb.z (⟨false,0,0,false,0,0,0,0,[],false,0,false,false⟩:Qb) (Chg.iso _ (Chg.here (Chg.id (by rfl)))) rfl rfl (V.raw (f:=true) (St.lnk_one h5 (.s .z)) false) (.cons (Rep.int .i64) (Qb.repW v0 (.slice none 0 0)) (Qb.repW v0 (.slice none 0 0)) (⟨false,0,0,false,0,0,0,0,[],false,0,false,false⟩:Qb) (⟨false,a1,0,false,0,0,0,0,[],false,0,false,false⟩:Qb) (Chg.iso _ (Chg.there (Chg.here (Chg.id (by rfl))))) rfl rfl V.int (.cons (Rep.int .i64) (Qb.repW v0 (.slice none 0 0)) (Qb.repW v0 (.slice none 0 0)) (⟨false,a1,0,false,0,0,0,0,[],false,0,false,false⟩:Qb) (⟨false,a1,a2,false,0,0,0,0,[],false,0,false,false⟩:Qb) (Chg.iso _ (Chg.there (Chg.there (Chg.here (Chg.id (by rfl)))))) rfl rfl V.int (.cons Rep.bool (Qb.repW v0 (.slice none 0 0)) (Qb.repW v0 (.slice none 0 0)) (⟨false,a1,a2,false,0,0,0,0,[],false,0,false,false⟩:Qb) (⟨false,a1,a2,a3,0,0,0,0,[],false,0,false,false⟩:Qb) (Chg.iso _ (Chg.there (Chg.there (Chg.there (Chg.here (Chg.id (by rfl))))))) rfl rfl V.bool (.cons (Rep.int .u16) (Qb.repW v0 (.slice none 0 0)) (Qb.repW v0 (.slice none 0 0)) (⟨false,a1,a2,a3,0,0,0,0,[],false,0,false,false⟩:Qb) (⟨false,a1,a2,a3,0,0,0,1,[],false,0,false,false⟩:Qb) (Chg.iso _ (Chg.there (Chg.there (Chg.there (Chg.there (Chg.there (Chg.there (Chg.there (Chg.here (Chg.id (by rfl))))))))))) rfl rfl V.int .nil))))) (λ u1 h6=>?_))
  refine op (OpS.box (f':=true) h6 rfl rfl rfl (V.at .z) (λ u2 w2 h7=>?_))
  refine ga rfl (nil (sr (gm rfl ?_)))
  obtain ⟨x1,e2,hF⟩:=Qa hF
  refine op (OpS.make h7 Tryz.underlying170 ti24 rfl rfl (Zr.slice (Rep.int .u8)) rfl rfl rfl rfl e2 (by simp) (Qhl e2) rfl (λ u3 w3 h8=>?_))
  refine ga rfl (nil (sr (gm rfl ?_)))
  obtain ⟨x2,e3,hF⟩:=Qa hF
  refine op (OpS.make h8 Tryz.underlying171 ti174 rfl rfl Qf.zr rfl rfl rfl rfl e3 (by simp) (Qhl e3) rfl (λ u4 w4 h9=>?_))
  refine ga rfl (nil (Run.seq (sr (gm rfl (gm rfl (nil (Run.block ?_)))))))
  have h10:=St.boxJ (r':=(Qb.repW v0 (.slice none 0 0))) (x':=(⟨true,a1,a2,a3,0,0,0,1,[],false,0,false,false⟩:Qb)) (h9.pick (.s (.s .z))) (λ _ _ hs_=>(Jn.iso _ (Jn.prod Jn.same (Jn.prod Jn.refl (Jn.prod Jn.refl (Jn.prod Jn.refl (Jn.prod Jn.refl (Jn.prod Jn.refl (Jn.prod Jn.refl (Jn.prod Jn.refl (Jn.prod Jn.same Jn.refl)))))))))))
  have h11:=(h10.pick .z).weak
  have h12:=(h11.pick (.s (.s (.s .z)))).weak
  have h13:=(h12.pick (.s (.s (.s (.s .z))))).weak
  refine Run.slim [(0,v0),(1,.int .i64 a1),(2,.int .i64 a2),(10,u2),(11,u3),(12,u4),(50,.int .i64 a2),(51,.int .i64 0)] ⟨rfl,rfl,rfl,rfl,rfl,rfl,rfl,rfl,trivial⟩ ?_
  refine Run.loopP (σ:=(Int×Qb×(List (List Int))×(List Qf))) (λ s_ L_ w_=>L_=[(0,v0),(1,.int .i64 a1),(2,.int .i64 a2),(10,u2),(11,u3),(12,u4),(50,.int .i64 a2),(51,.int .i64 s_.1)]∧St e w_ [] [(false,.box 166 (Qc.repW v0_0 v0_1) v0 a0),(false,.box 169 (Qb.repW v0 (.slice none 0 0)) u2 s_.2.1),(true,.slice 24 (Rep.slice (Rep.int .u8)) u3 s_.2.2.1),(true,.slice 174 Qf.rep u4 s_.2.2.2),(false,.slice 5 (Rep.int .u8) v0_0 a0.bytes),(false,.slice 3 (Rep.int .i64) v0_1 a0.wear),(false,.slice 200 Qe.rep (.slice none 0 0) s_.2.1.records),(false,.lnk v0 v0 s_.2.1.d)]) hF ⟨rfl,(h13.facts .nil).picks (.cons (.s (.s (.s (.s (.s .z))))) (.cons (.s (.s .z)) (.cons (.s (.s (.s .z))) (.cons (.s (.s .z)) (.cons (.s (.s .z)) (.cons (.s (.s .z)) (.cons (.s .z) (.cons .z .nil))))))))⟩ (λ k1 hk1 s2 _ w5 hI hF=>?_)
  obtain ⟨rfl,h14⟩:=hI
  refine sr (gb rfl (nil (Run.seq ?_)))
  refine Run.ite rfl hF (λ e4 hF=>?_) (λ e4 hF=>?_)
  ·refine Run.skip (Run.seq (Run.block (sr (gm rfl (ga rfl (nil (sr (gm rfl (gm rfl (gm rfl (gb rfl (gm rfl ?_))))))))))))
   obtain ⟨y1,e5,hF⟩:=Qa hF
   have h15:=h14.front (.cons .z (.cons (.s (.s (.s .z))) (.cons (.s (.s (.s .z))) .nil)))
   refine op (OpS.callO h15 Tryz.func71 rfl rfl rfl rfl (vs:=[v0]) rfl (Qbf e5) rfl .nil ?_)
   rintro _ w6 _ _ _ ⟨rfl,rfl,rfl,rfl⟩ h16
   have h17:=h16
   simp only [ca,na] at h17
   refine gb rfl (gm rfl ?_)
   obtain ⟨y2,e6,hF⟩:=Qa hF
   have h18:=h17.front (.cons .z (.cons .z (.cons .z .nil)))
   refine op (OpS.callO h18 Tryz.func71 rfl rfl rfl rfl (vs:=[v0]) rfl (Qbf e6) rfl .nil ?_)
   rintro _ w7 _ _ _ ⟨rfl,rfl,rfl,rfl⟩ h19
   have h20:=h19
   simp only [ca,na] at h20
   obtain ⟨y3,e7,hF⟩:=Qa hF
   have h21:=h20.front (.cons .z (.cons .z (.cons .z .nil)))
   refine op (OpS.callO h21 Tryz.func70 rfl rfl rfl rfl (vs:=[v0,.int .i64 (IntKind.i64.wrap ((IntKind.i64.wrap (a1+s2.1))*y1)),.int .i64 y2]) rfl (Qhc e7) rfl .nil ?_)
   rintro _ w8 _ _ _ ⟨u5,rfl,rfl,rfl,rfl⟩ h22
   have h23:=h22
   simp only [ca,na] at h23
   refine gm rfl (op (OpS.ext rfl rfl rfl rfl ?_))
   refine op (OpS.ext rfl rfl rfl rfl ?_)
   refine ga rfl ?_
   have h24:=(h23.pick .z).freeze
   refine ga rfl (nil (Run.seq (sr (gm rfl (gb rfl (nil ?_))))))
   refine Run.ite rfl hF (λ e8 hF=>?_) (λ e8 hF=>?_)
   ·refine sr (gm rfl (ga rfl (ga rfl (nil ?_))))
    have h25:=St.none (Qb.mem v0 (.pointer none)) h24
    have h26:=(h25.pick .z).weak
    refine Run.retP rfl (.tmp rfl (.tmp rfl .nil)) ?_
    cases hF
    exact Post.mk' ⟨(.pointer none),rfl,rfl,rfl,rfl⟩ (h26.picks (.cons .z (.cons .z (.cons .z (.cons .z .nil))))) .nil
   refine Run.skip (sr (gm rfl (gm rfl (gm rfl ?_))))
   obtain ⟨y4,e9,hF⟩:=Qa hF
   have h27:=h24.front (.cons (.s (.s (.s .z))) (.cons (.s (.s (.s (.s (.s (.s .z)))))) (.cons (.s (.s (.s (.s (.s .z))))) .nil)))
   refine op (OpS.callO h27 Tryz.func72 rfl rfl rfl rfl (vs:=[u2,u5,.int .i64 s2.1]) rfl (Qjz e9) rfl (.cons (f:=true) (V.at .z) .nil) ?_)
   rintro _ w9 _ _ _ ⟨u6,rfl,rfl,rfl,rfl⟩ h28
   have h29:=h28
   simp only [ca,na] at h29
   refine gm rfl (op (OpS.ext rfl rfl rfl rfl ?_))
   refine op (OpS.ext rfl rfl rfl rfl ?_)
   refine op (OpS.alloc h29 ti174 Qf.zr rfl rfl (λ u7 w10 h30=>?_))
   refine op (OpS.storeB (f':=true) h30 .z PA.z Put.id ty174 rfl rfl rfl (V.at .z) (.inl rfl) (λ w11 h31=>?_))
   refine ga rfl (nil (sr (gm rfl (nil ?_))))
   refine Run.ite rfl hF (λ e10 hF=>?_) (λ e10 hF=>?_)
   ·refine Run.seq ?_
    have h32:=h31.picks (.cons .z (.cons (.s (.s (.s (.s (.s (.s .z)))))) (.cons .z (.cons .z (.cons .z (.cons .z (.cons .z (.cons .z (.cons .z .nil)))))))))
    obtain ⟨x3,e11,hF⟩:=Qa hF
    obtain ⟨d1,e12,hF⟩:=Qh hF
    refine Run.drawV (Ωs:=[(false,.box 169 (Qb.repW v0 (.slice none 0 0)) u2 s2.2.1),(false,.lnk v0 v0 s2.2.1.d),(false,.slice 200 Qe.rep (.slice none 0 0) s2.2.1.records),(false,.box 166 (Qc.repW v0_0 v0_1) v0 a0),(false,.slice 5 (Rep.int .u8) v0_0 a0.bytes),(false,.slice 3 (Rep.int .i64) v0_1 a0.wear),(true,.slice 174 Qf.rep u4 s2.2.2.2)]) [.k 78 u3,.k 79 (.int .i64 s2.1),.k 80 u4,.k 81 (.int .i64 s2.1),.k 82 u5,.fr 83 (λ u_=>[(true,.val Qf.rep u_ y4.1)]) [0],⟨some 84,some ((padd (sp u3) ((s2.1:Int).toNat*(Rep.slice (Rep.int .u8)).n))),λ _=>[],λ ds_ u_=>[],[],[(1,[7,6])],none⟩,⟨none,some undef,λ _=>[],λ ds_ u_=>[(true,.slice 24 (Rep.slice (Rep.int .u8)) u3 d1)],[1],[],none⟩] [[],[],[],[],[],[],[0,1],[6,4]] [[(true,.box 174 Qf.rep u7 y4.1)],[(true,.slice 24 (Rep.slice (Rep.int .u8)) u3 s2.2.2.1)]] [0,2,3,4,5,6,7,8,9] Qi rfl rfl rfl h32 (.cons ?_ (.cons ?_ (.cons ?_ (.cons ?_ (.cons ?_ (.cons ?_ (.cons ?_ (.cons ?_ .nil)))))))) (λ q1 w hq1 h=>?_)
    ·intro q1 w Γx Ωx h
     refine OpS.mv rfl rfl rfl ?_
     exact du h
    ·intro q1 w Γx Ωx h
     refine OpS.mv rfl rfl rfl ?_
     exact du h
    ·intro q1 w Γx Ωx h
     refine OpS.mv rfl rfl rfl ?_
     exact du h
    ·intro q1 w Γx Ωx h
     refine OpS.mv rfl rfl rfl ?_
     exact du h
    ·intro q1 w Γx Ωx h
     refine OpS.mv rfl rfl rfl ?_
     exact du h
    ·intro q1 w Γx Ωx h
     refine OpS.loadB h .z PA.z Get.id ty174 rfl rfl rfl (λ u h35=>?_)
     exact ⟨u,rfl,trivial,h35⟩
    ·intro q1 w Γx Ωx h
     refine OpS.iown h .z Tryz.underlying170 ty24 rfl rfl rfl rfl e11 ?_
     exact du h
    ·intro q1 w Γx Ωx h
     refine OpS.storeO (f':=true) h .z (Qnl e11) PA.a (Put.of (Put.arr e11) e12) ty24 rfl rfl rfl (V.at (.s .z)) (.inl rfl) (λ w13 h36=>?_)
     exact ⟨undef,trivial,trivial,h36⟩
    have h37:=h
    obtain ⟨x4,e13,hF⟩:=Qa hF
    refine op (OpS.iown h37 (.s (.s (.s (.s (.s (.s (.s (.s .z)))))))) Tryz.underlying171 ty174 rfl rfl rfl rfl e13 ?_)
    obtain ⟨d2,e14,hF⟩:=Qh hF
    refine op (OpS.storeO (f':=true) h37 (.s (.s (.s (.s (.s (.s (.s (.s .z)))))))) (Qnl e13) PA.a (Put.of (Put.arr e13) e14) ty174 rfl rfl rfl (V.at .z) (.inl rfl) (λ w14 h38=>?_))
    refine nil (Run.slim [(16,u7),(0,v0),(1,.int .i64 a1),(2,.int .i64 a2),(10,u2),(11,u3),(12,u4),(50,.int .i64 a2),(51,.int .i64 s2.1)] ⟨rfl,rfl,rfl,rfl,rfl,rfl,rfl,rfl,rfl,trivial⟩ ?_)
    refine Run.seq ?_
    have h39:=h38.picks (.cons (.s .z) (.cons (.s (.s .z)) (.cons .z (.cons .z (.cons .z (.cons .z (.cons .z (.cons .z (.cons .z .nil)))))))))
    refine Run.drawV (Ωs:=[(true,.slice 174 Qf.rep u4 d2),(true,.slice 24 (Rep.slice (Rep.int .u8)) u3 d1),(false,.lnk v0 v0 s2.2.1.d),(false,.slice 200 Qe.rep (.slice none 0 0) s2.2.1.records),(false,.box 166 (Qc.repW v0_0 v0_1) v0 a0),(false,.slice 5 (Rep.int .u8) v0_0 a0.bytes),(false,.slice 3 (Rep.int .i64) v0_1 a0.wear)]) [.kr 86 (padd u7 0) [0],.kr 87 (.int .i64 y4.1.sequence) [0],.k 88 u2,.kr 89 u2 [1],.kr 90 (padd u2 4) [1],.kr 91 (.int .i64 s2.2.1.newest) [1]] [[],[0],[],[2],[3],[4]] [[(true,.box 174 Qf.rep u7 y4.1)],[(false,.box 169 (Qb.repW v0 (.slice none 0 0)) u2 s2.2.1)]] [0,1,2,3,4,5,6,7] Qi rfl rfl rfl h39 (.cons ?_ (.cons ?_ (.cons ?_ (.cons ?_ (.cons ?_ (.cons ?_ .nil)))))) (λ q2 w hq2 h=>?_)
    ·intro q2 w Γx Ωx h
     refine OpS.fbox (o3:=0) h .z PA.z Qcx rfl rfl rfl rfl ?_
     exact du h
    ·intro q2 w Γx Ωx h
     refine OpS.loadBi h .z PA.a (Get.fld Qf.f0) ty3 rfl rfl rfl ?_
     exact du h
    ·intro q2 w Γx Ωx h
     refine OpS.mv rfl rfl rfl ?_
     exact du h
    ·intro q2 w Γx Ωx h
     refine OpS.nchk h .z rfl rfl rfl ?_
     exact du h
    ·intro q2 w Γx Ωx h
     refine OpS.fbox (o3:=4) h .z PA.z Qer rfl rfl rfl rfl ?_
     exact du h
    ·intro q2 w Γx Ωx h
     refine OpS.loadBi h .z PA.a (GetS.ok (GetS.iso _ (GetS.there (GetS.there (GetS.there (GetS.there (GetS.here GetS.id))))))) ty3 rfl rfl rfl ?_
     exact du h
    have h40:=h
    refine gb rfl (nil ?_)
    refine Run.ite rfl hF (λ e15 hF=>?_) (λ e15 hF=>?_)
    ·obtain ⟨d3,e16,hF⟩:=Qh hF
     refine Run.drawV (Ωs:=[(true,.slice 174 Qf.rep u4 d2),(true,.slice 24 (Rep.slice (Rep.int .u8)) u3 d1),(false,.lnk v0 v0 s2.2.1.d),(false,.slice 200 Qe.rep (.slice none 0 0) s2.2.1.records),(false,.box 166 (Qc.repW v0_0 v0_1) v0 a0),(false,.slice 5 (Rep.int .u8) v0_0 a0.bytes),(false,.slice 3 (Rep.int .i64) v0_1 a0.wear)]) [.k 93 u2,.k 94 u2,.kr 95 (padd u7 0) [0],.kr 96 (.int .i64 y4.1.sequence) [0],.kr 97 (padd u7 1) [0],.kr 98 (.int .i64 y4.1.tail) [0],⟨some 99,some (u2),λ _=>[],λ ds_ u_=>[],[],[(1,[8,7,6])],none⟩,⟨some 100,some ((padd u2 4)),λ _=>[],λ ds_ u_=>[],[],[(1,[8,7])],none⟩,⟨none,some undef,λ _=>[],λ ds_ u_=>[(false,.box 169 (Qb.repW v0 (.slice none 0 0)) u2 d3)],[1],[],none⟩] [[],[],[],[2],[],[4],[0],[6],[7,3]] [[(true,.box 174 Qf.rep u7 y4.1)],[(false,.box 169 (Qb.repW v0 (.slice none 0 0)) u2 s2.2.1)]] [0,2,3,4,5,6,7,8,9,10] Qi rfl rfl rfl h40 (.cons ?_ (.cons ?_ (.cons ?_ (.cons ?_ (.cons ?_ (.cons ?_ (.cons ?_ (.cons ?_ (.cons ?_ .nil))))))))) (λ q3 w hq3 h=>?_)
     ·intro q3 w Γx Ωx h
      refine OpS.mv rfl rfl rfl ?_
      exact du h
     ·intro q3 w Γx Ωx h
      refine OpS.mv rfl rfl rfl ?_
      exact du h
     ·intro q3 w Γx Ωx h
      refine OpS.fbox (o3:=0) h .z PA.z Qcx rfl rfl rfl rfl ?_
      exact du h
     ·intro q3 w Γx Ωx h
      refine OpS.loadBi h .z PA.a (Get.fld Qf.f0) ty3 rfl rfl rfl ?_
      exact du h
     ·intro q3 w Γx Ωx h
      refine OpS.fbox (o3:=1) h .z PA.z Qho rfl rfl rfl rfl ?_
      exact du h
     ·intro q3 w Γx Ωx h
      refine OpS.loadBi h .z PA.a (Get.fld Qf.f1) ty3 rfl rfl rfl ?_
      exact du h
     ·intro q3 w Γx Ωx h
      refine OpS.nchk h .z rfl rfl rfl ?_
      exact du h
     ·intro q3 w Γx Ωx h
      refine OpS.fbox (o3:=4) h .z PA.z Qer rfl rfl rfl rfl ?_
      exact du h
     ·intro q3 w Γx Ωx h
      refine OpS.storeC (f':=true) (fr:=(Rep.int .i64)) (r':=(Qb.repW v0 (.slice none 0 0))) (x':=d3) h .z PA.a (Chg.of (x':={ s2.2.1 with newest:=y4.1.sequence }) (Chg.iso _ (Chg.there (Chg.there (Chg.there (Chg.there (Chg.here (Chg.id (by rfl)))))))) e16) ty3 rfl rfl rfl V.int (.inr rfl) (λ w16 h42=>?_)
      exact ⟨undef,trivial,trivial,h42⟩
     have h43:=h
     refine op (OpS.nchk h43 (.s .z) rfl rfl rfl ?_)
     refine op (OpS.fbox (o3:=5) h43 (.s .z) PA.z Qom rfl rfl rfl rfl ?_)
     obtain ⟨d4,e17,hF⟩:=Qh hF
     refine op (OpS.storeC (f':=true) (fr:=(Rep.int .i64)) (r':=(Qb.repW v0 (.slice none 0 0))) (x':=d4) h43 (.s .z) PA.a (Chg.of (x':={ d3 with tail:=y4.1.tail }) (Chg.iso _ (Chg.there (Chg.there (Chg.there (Chg.there (Chg.there (Chg.here (Chg.id (by rfl))))))))) e17) ty3 rfl rfl rfl V.int (.inr rfl) (λ w17 h44=>?_))
     refine nil (Run.endBlock (Run.reg (gb rfl (gm rfl (nil ?_)))))
     have h45:=St.boxJ (r':=(Qb.repW v0 (.slice none 0 0))) (x':={ { d4 with d:=s2.2.1.d } with records:=s2.2.1.records }) (h44.pick .z) (λ _ _ hs_=>(Jn.iso _ (Jn.prod Jn.same (Jn.prod Jn.refl (Jn.prod Jn.refl (Jn.prod Jn.refl (Jn.prod Jn.refl (Jn.prod Jn.refl (Jn.prod Jn.refl (Jn.prod Jn.refl (Jn.prod Jn.same Jn.refl)))))))))))
     have h46:=St.boxJ (r':=(Qb.repW v0 (.slice none 0 0))) (x':={ { { { d4 with d:=s2.2.1.d } with records:=s2.2.1.records } with d:=s2.2.1.d } with records:=s2.2.1.records }) (h45.pick .z) (λ _ _ hs_=>(Jn.iso _ (Jn.prod Jn.same (Jn.prod Jn.refl (Jn.prod Jn.refl (Jn.prod Jn.refl (Jn.prod Jn.refl (Jn.prod Jn.refl (Jn.prod Jn.refl (Jn.prod Jn.refl (Jn.prod Jn.same Jn.refl)))))))))))
     refine Run.slim [(0,v0),(1,.int .i64 a1),(2,.int .i64 a2),(10,u2),(11,u3),(12,u4),(50,.int .i64 a2),(51,.int .i64 (IntKind.i64.wrap (s2.1+1)))] ⟨rfl,rfl,rfl,rfl,rfl,rfl,rfl,rfl,trivial⟩ ?_
     exact hk1 ((IntKind.i64.wrap (s2.1+1)),{ { { { d4 with d:=s2.2.1.d } with records:=s2.2.1.records } with d:=s2.2.1.d } with records:=s2.2.1.records },d1,d2) _ _ ⟨rfl,(h46.facts .nil).picks (.cons (.s (.s (.s (.s (.s (.s .z)))))) (.cons .z (.cons (.s (.s .z)) (.cons (.s .z) (.cons (.s (.s (.s .z))) (.cons (.s (.s (.s .z))) (.cons (.s (.s .z)) (.cons (.s .z) .nil))))))))⟩ hF
    refine Run.skip (Run.endBlock (Run.reg (gb rfl (gm rfl (nil (Run.slim [(0,v0),(1,.int .i64 a1),(2,.int .i64 a2),(10,u2),(11,u3),(12,u4),(50,.int .i64 a2),(51,.int .i64 (IntKind.i64.wrap (s2.1+1)))] ⟨rfl,rfl,rfl,rfl,rfl,rfl,rfl,rfl,trivial⟩ ?_))))))
    exact hk1 ((IntKind.i64.wrap (s2.1+1)),s2.2.1,d1,d2) _ _ ⟨rfl,(h40.facts .nil).picks (.cons (.s (.s (.s (.s (.s (.s .z)))))) (.cons (.s .z) (.cons (.s (.s .z)) (.cons (.s .z) (.cons (.s (.s (.s .z))) (.cons (.s (.s (.s .z))) (.cons (.s (.s .z)) (.cons (.s .z) .nil))))))))⟩ hF
   refine Run.skip (Run.endBlock (Run.reg (gb rfl (gm rfl (nil (Run.slim [(51,.int .i64 (IntKind.i64.wrap (s2.1+1))),(0,v0),(1,.int .i64 a1),(2,.int .i64 a2),(10,u2),(11,u3),(12,u4),(50,.int .i64 a2)] ⟨rfl,rfl,rfl,rfl,rfl,rfl,rfl,rfl,trivial⟩ ?_))))))
   refine Run.slim [(0,v0),(1,.int .i64 a1),(2,.int .i64 a2),(10,u2),(11,u3),(12,u4),(50,.int .i64 a2),(51,.int .i64 (IntKind.i64.wrap (s2.1+1)))] ⟨rfl,rfl,rfl,rfl,rfl,rfl,rfl,rfl,trivial⟩ ?_
   exact hk1 ((IntKind.i64.wrap (s2.1+1)),s2.2.1,s2.2.2.1,s2.2.2.2) _ _ ⟨rfl,(h31.facts .nil).picks (.cons (.s (.s (.s (.s .z)))) (.cons (.s .z) (.cons (.s (.s (.s (.s (.s .z))))) (.cons (.s (.s (.s (.s (.s .z))))) (.cons (.s (.s (.s .z))) (.cons (.s (.s (.s .z))) (.cons (.s (.s .z)) (.cons (.s .z) .nil))))))))⟩ hF
  refine Run.exit rfl ?_
  refine Run.seq (sr (gm rfl (op (OpS.nchk h14 (.s .z) rfl rfl rfl ?_))))
  refine op (OpS.fbox (o3:=5) h14 (.s .z) PA.z Qom rfl rfl rfl rfl ?_)
  refine op (OpS.loadBi h14 (.s .z) PA.a (GetS.ok (GetS.iso _ (GetS.there (GetS.there (GetS.there (GetS.there (GetS.there (GetS.here GetS.id)))))))) ty3 rfl rfl rfl ?_)
  refine ga rfl (nil (Run.block ?_))
  have h47:=(h14.pick (.s (.s .z))).freeze
  have h48:=(h47.pick (.s (.s .z))).freeze
  refine Run.slim [(2,.int .i64 a2),(10,u2),(11,u3),(12,u4),(18,.int .i64 s2.2.1.tail)] ⟨rfl,rfl,rfl,rfl,rfl,trivial⟩ ?_
  refine Run.loopP (σ:=((List (List Int))×(List Qf)×Int×Qb)) (λ s_ L_ w_=>∃ u0_ u1_ u2_ u3_:Value,L_=[(2,.int .i64 a2),(10,u2),(11,u0_),(12,u1_),(18,.int .i64 s_.2.2.1)]∧St e w_ [(true,.val (Rep.slice (Rep.slice (Rep.int .u8))) u0_ s_.1),(true,.val (Rep.slice Qf.rep) u1_ s_.2.1)] [(false,.box 169 (Qb.repW u3_ u2_) u2 s_.2.2.2),(false,.box 166 (Qc.repW v0_0 v0_1) v0 a0),(false,.slice 200 Qe.rep u2_ s_.2.2.2.records),(false,.lnk v0 u3_ s_.2.2.2.d),(false,.slice 5 (Rep.int .u8) v0_0 a0.bytes),(false,.slice 3 (Rep.int .i64) v0_1 a0.wear)]) hF ⟨u3,u4,(.slice none 0 0),v0,rfl,(h48.facts (.val (V.at (.s .z)) (.val (V.at .z) .nil))).picks (.cons (.s .z) (.cons .z (.cons (.s (.s .z)) (.cons (.s (.s .z)) (.cons .z (.cons .z .nil))))))⟩ (λ k2 hk2 s3 _ w18 hI hF=>?_)
  obtain ⟨u8,u9,u10,u11,rfl,h49⟩:=hI
  refine Run.seq (sr (gm rfl (gm rfl (op (OpS.nchk h49 .z rfl rfl rfl ?_)))))
  refine op (OpS.fbox (o3:=4) h49 .z PA.z Qer rfl rfl rfl rfl ?_)
  refine op (OpS.loadBi h49 .z PA.a (GetS.ok (GetS.iso _ (GetS.there (GetS.there (GetS.there (GetS.there (GetS.here GetS.id))))))) ty3 rfl rfl rfl ?_)
  refine gb rfl (gm rfl ?_)
  refine RunL.join (σ:=Bool) (λ s_ L_ w_=>L_=[(2,.int .i64 a2),(10,u2),(11,u8),(12,u9),(18,.int .i64 s3.2.2.1),(117,.bool s_)]∧St e w_ [(true,.val (Rep.slice (Rep.slice (Rep.int .u8))) u8 s3.1),(true,.val (Rep.slice Qf.rep) u9 s3.2.1)] [(false,.box 169 (Qb.repW u11 u10) u2 s3.2.2.2),(false,.box 166 (Qc.repW v0_0 v0_1) v0 a0),(false,.slice 200 Qe.rep u10 s3.2.2.2.records),(false,.lnk v0 u11 s3.2.2.2.d),(false,.slice 5 (Rep.int .u8) v0_0 a0.bytes),(false,.slice 3 (Rep.int .i64) v0_1 a0.wear)]) hF (λ s4 _ w19 hI hF=>?_) (λ j2 hj2 hF=>?_)
  ·obtain ⟨rfl,h50⟩:=hI
   refine Run.ite rfl hF (λ e18 hF=>?_) (λ e18 hF=>?_)
   ·refine Run.skip (Run.seq (Run.block (sr (gm rfl (gb rfl (gm rfl ?_))))))
    obtain ⟨e19,hF⟩:=Qr hF
    refine op (OpS.rem rfl rfl rfl rfl e19 ?_)
    refine ga rfl ?_
    obtain ⟨x5,e20,hF⟩:=Qh hF
    refine RunL.name e20 ?_
    refine nil (sr (gm rfl (gm rfl ?_)))
    obtain ⟨x6,e21,hF⟩:=Qa hF
    refine op (OpS.iptr h50 Tryz.underlying171 ty174 rfl rfl rfl rfl (V.at (.s .z)) e21 (λ u12 h51=>?_))
    refine op (OpS.fptr h51 Qcx Qf.f0 rfl rfl rfl .z (λ u13 h52=>?_))
    refine op (OpS.loadi h52 ty3 rfl rfl rfl .z ?_)
    refine gm rfl (gb rfl (nil ?_))
    refine Run.ite rfl hF (λ e22 hF=>?_) (λ e22 hF=>?_)
    ·obtain ⟨x7,e23,hF⟩:=Qa hF
     obtain ⟨x8,e24,hF⟩:=Qa hF
     refine Run.drawV (Ωs:=[(false,.box 169 (Qb.repW u11 u10) u2 s3.2.2.2),(false,.box 166 (Qc.repW v0_0 v0_1) v0 a0),(false,.slice 200 Qe.rep u10 s3.2.2.2.records),(false,.lnk v0 u11 s3.2.2.2.d),(false,.slice 5 (Rep.int .u8) v0_0 a0.bytes),(false,.slice 3 (Rep.int .i64) v0_1 a0.wear)]) [.k 131 u2,.k 132 u8,.k 133 (.int .i64 x5),.f 134 (λ u_=>[(true,.ptr (Rep.slice (Rep.int .u8)) u_ x7)]),.f 135 (λ u_=>[(true,.val (Rep.slice (Rep.int .u8)) u_ x7)]),.k 136 u9,.k 137 (.int .i64 x5),.f 138 (λ u_=>[(true,.ptr Qf.rep u_ x8)]),.f 139 (λ u_=>[(true,.val Qf.rep u_ x8)])] [[],[],[],[1,2],[3],[],[],[5,6],[7]] [] [0,1,2,3,4,5,6,7,8] Qi rfl rfl rfl h52 (.cons ?_ (.cons ?_ (.cons ?_ (.cons ?_ (.cons ?_ (.cons ?_ (.cons ?_ (.cons ?_ (.cons ?_ .nil))))))))) (λ q4 w hq4 h=>?_)
     ·intro q4 w Γx Ωx h
      refine OpS.mv rfl rfl rfl ?_
      exact du h
     ·intro q4 w Γx Ωx h
      refine OpS.mv rfl rfl rfl ?_
      exact du h
     ·intro q4 w Γx Ωx h
      refine OpS.mv rfl rfl rfl ?_
      exact du h
     ·intro q4 w Γx Ωx h
      refine OpS.iptr h Tryz.underlying170 ty24 rfl rfl rfl rfl (V.at (.s (.s .z))) e23 (λ u h57=>?_)
      exact ⟨u,rfl,trivial,h57⟩
     ·intro q4 w Γx Ωx h
      refine OpS.load h ty24 rfl rfl rfl .z (λ u h58=>?_)
      exact ⟨u,rfl,trivial,h58⟩
     ·intro q4 w Γx Ωx h
      refine OpS.mv rfl rfl rfl ?_
      exact du h
     ·intro q4 w Γx Ωx h
      refine OpS.mv rfl rfl rfl ?_
      exact du h
     ·intro q4 w Γx Ωx h
      refine OpS.iptr h Tryz.underlying171 ty174 rfl rfl rfl rfl (V.at (.s (.s (.s .z)))) e24 (λ u h59=>?_)
      exact ⟨u,rfl,trivial,h59⟩
     ·intro q4 w Γx Ωx h
      refine OpS.load h ty174 rfl rfl rfl .z (λ u h60=>?_)
      exact ⟨u,rfl,trivial,h60⟩
     have h61:=h
     obtain ⟨y5,e25,hF⟩:=Qa hF
     have h62:=h61.front (.cons .z (.cons (.s (.s .z)) (.cons (.s .z) .nil)))
     refine op (OpS.callO h62 Tryz.func73 rfl rfl rfl rfl (vs:=[u2,(q4 4),(q4 8)]) rfl (Qks e25) rfl (.cons (f:=true) (V.at (.s .z)) (.cons (f:=true) (V.at (.s (.s (.s .z)))) .nil)) ?_)
     rintro _ w20 _ _ _ ⟨u14,u15,rfl,rfl,rfl,rfl⟩ h63
     have h64:=h63
     simp only [ca,na] at h64
     refine nil (Run.endBlock (Run.reg (gm rfl (gb rfl (ga rfl ?_)))))
     obtain ⟨x9,e26,hF⟩:=Qh hF
     refine RunL.name e26 ?_
     refine nil (Run.slim [(2,.int .i64 a2),(10,u2),(11,u8),(12,u9),(18,.int .i64 x9)] ⟨rfl,rfl,rfl,rfl,rfl,trivial⟩ ?_)
     exact hk2 (s3.1,s3.2.1,x9,y5) _ _ ⟨u8,u9,u15,u14,rfl,(h64.facts (.val (V.at (.s (.s (.s (.s (.s (.s .z))))))) (.val (V.at (.s (.s (.s (.s (.s (.s (.s .z)))))))) .nil))).picks (.cons .z (.cons (.s (.s .z)) (.cons (.s .z) (.cons .z (.cons .z (.cons .z .nil))))))⟩ hF
    refine Run.skip (Run.endBlock (Run.reg (gm rfl (gb rfl (ga rfl ?_)))))
    obtain ⟨x10,e27,hF⟩:=Qh hF
    refine RunL.name e27 ?_
    refine nil (Run.slim [(2,.int .i64 a2),(10,u2),(11,u8),(12,u9),(18,.int .i64 x10)] ⟨rfl,rfl,rfl,rfl,rfl,trivial⟩ ?_)
    exact hk2 (s3.1,s3.2.1,x10,s3.2.2.2) _ _ ⟨u8,u9,u10,u11,rfl,(h52.facts (.val (V.at (.s (.s .z))) (.val (V.at (.s (.s (.s .z)))) .nil))).picks (.cons .z (.cons .z (.cons .z (.cons .z (.cons .z (.cons .z .nil))))))⟩ hF
   refine Run.exit rfl ?_
   refine sr (gm rfl (ga rfl (ga rfl (nil ?_))))
   have h65:=h50.front (.cons (.s (.s (.s .z))) (.cons (.s (.s .z)) (.cons .z .nil)))
   have h66:=St.sep h65
   have h67:=St.sep (h66.pick (.s .z))
   have h68:=St.ex (H:=λ w1_=>.sep (.box 169 (Qb.repW u11 w1_) u2 s3.2.2.2) (.sep (.lnk v0 u11 s3.2.2.2.d) (.slice 200 Qe.rep w1_ s3.2.2.2.records))) u10 h67
   have h69:=St.ex (H:=λ w0_=>.ex λ w1_=>.sep (.box 169 (Qb.repW w0_ w1_) u2 s3.2.2.2) (.sep (.lnk v0 w0_ s3.2.2.2.d) (.slice 200 Qe.rep w1_ s3.2.2.2.records))) u11 h68
   have h70:=St.some (H:=(Qb.mem v0 u2)) (q:=u2) (x:=s3.2.2.2) h69
   refine Run.retP rfl (.tmp rfl (.tmp rfl .nil)) ?_
   cases hF
   exact Post.mk' ⟨u2,rfl,rfl,rfl,rfl⟩ (h70.picks (.cons .z (.cons .z (.cons .z (.cons .z .nil))))) .nil
  refine RunL.caseb hF (λ e28 hF=>?_) (λ e28 hF=>?_)
  ·refine gm rfl (gb rfl (gk rfl (nil (Run.slim [(2,.int .i64 a2),(10,u2),(11,u8),(12,u9),(18,.int .i64 s3.2.2.1),(117,.bool (decide (s3.2.2.1>0)))] ⟨rfl,rfl,rfl,rfl,rfl,rfl,trivial⟩ ?_))))
   exact hj2 (decide (s3.2.2.1>0)) _ _ ⟨rfl,(h49.facts (.atm .z (.atm (.s .z) .nil))).picks (.cons .z (.cons .z (.cons .z (.cons .z (.cons .z (.cons .z .nil))))))⟩ hF
  refine gp rfl (gp rfl (gk rfl (nil (Run.slim [(2,.int .i64 a2),(10,u2),(11,u8),(12,u9),(18,.int .i64 s3.2.2.1),(117,.bool false)] ⟨rfl,rfl,rfl,rfl,rfl,rfl,trivial⟩ ?_))))
  exact hj2 (false) _ _ ⟨rfl,(h49.facts (.atm .z (.atm (.s .z) .nil))).picks (.cons .z (.cons .z (.cons .z (.cons .z (.cons .z (.cons .z .nil))))))⟩ hF
 refine RunL.caseb hF (λ e29 hF=>?_) (λ e29 hF=>?_)
 ·refine gp rfl (gp rfl (gk rfl (gm rfl (gp rfl (gp rfl (gp rfl (gp rfl (gk rfl (gm rfl (gp rfl (gp rfl (gp rfl (gp rfl (gp rfl (gp rfl (gk rfl ?_))))))))))))))))
  refine nil (Run.slim [(0,v0),(1,.int .i64 a1),(2,.int .i64 a2),(3,.bool a3),(39,.bool true)] ⟨rfl,rfl,rfl,rfl,rfl,trivial⟩ ?_)
  exact hj1 (true) _ _ ⟨rfl,(h.facts .nil).picks (.cons .z (.cons .z (.cons .z .nil)))⟩ hF
 refine gm rfl (gb rfl (gk rfl (gm rfl ?_)))
 refine RunL.caseb hF (λ e30 hF=>?_) (λ e30 hF=>?_)
 ·refine gp rfl (gp rfl (gp rfl (gp rfl (gk rfl (gm rfl (gp rfl (gp rfl (gp rfl (gp rfl (gp rfl (gp rfl (gk rfl (nil (Run.slim [(0,v0),(1,.int .i64 a1),(2,.int .i64 a2),(3,.bool a3),(39,.bool true)] ⟨rfl,rfl,rfl,rfl,rfl,trivial⟩ ?_))))))))))))))
  exact hj1 (true) _ _ ⟨rfl,(h.facts .nil).picks (.cons .z (.cons .z (.cons .z .nil)))⟩ hF
 refine gm rfl (gm rfl ?_)
 obtain ⟨y6,e31,hF⟩:=Qa hF
 have h71:=h.front (.cons .z (.cons .z (.cons .z .nil)))
 refine op (OpS.callO h71 Tryz.func69 rfl rfl rfl rfl (vs:=[v0]) rfl (Qgf e31) rfl .nil ?_)
 rintro _ w21 _ _ _ ⟨rfl,rfl,rfl,rfl⟩ h72
 have h73:=h72
 simp only [ca,na] at h73
 refine gb rfl (gk rfl (gm rfl ?_))
 refine RunL.caseb hF (λ e32 hF=>?_) (λ e32 hF=>?_)
 ·refine gp rfl (gp rfl (gp rfl (gp rfl (gp rfl (gp rfl (gk rfl (nil (Run.slim [(0,v0),(1,.int .i64 a1),(2,.int .i64 a2),(3,.bool a3),(39,.bool true)] ⟨rfl,rfl,rfl,rfl,rfl,trivial⟩ ?_))))))))
  exact hj1 (true) _ _ ⟨rfl,(h73.facts .nil).picks (.cons .z (.cons .z (.cons .z .nil)))⟩ hF
 refine gm rfl (gm rfl ?_)
 obtain ⟨y7,e33,hF⟩:=Qa hF
 have h74:=h73.front (.cons .z (.cons .z (.cons .z .nil)))
 refine op (OpS.callO h74 Tryz.func69 rfl rfl rfl rfl (vs:=[v0]) rfl (Qgf e33) rfl .nil ?_)
 rintro _ w22 _ _ _ ⟨rfl,rfl,rfl,rfl⟩ h75
 have h76:=h75
 simp only [ca,na] at h76
 refine gm rfl (gb rfl (gb rfl (gk rfl (nil (Run.slim [(0,v0),(1,.int .i64 a1),(2,.int .i64 a2),(3,.bool a3),(39,.bool (decide (a1>(IntKind.i64.wrap (y7-a2)))))] ⟨rfl,rfl,rfl,rfl,rfl,trivial⟩ ?_)))))
 exact hj1 (decide (a1>(IntKind.i64.wrap (y7-a2)))) _ _ ⟨rfl,(h76.facts .nil).picks (.cons .z (.cons .z (.cons .z .nil)))⟩ hF
theorem Qhx {fuel:Nat} {a0:Sensor_} {a1:Int} {y:Bool} (hF:Qch fuel a0 a1=some y) {w:World} {v0 v1:Value} :
  Spec Tryz.prog 158 [v0,v1].toArray w [(false,.val Sensor_.rep v0 a0),(false,.ptr (Rep.int .u8) v1 a1)] [] (λ v Γr Ωr Ωo=>v=.bool y∧Γr=[]∧Ωr=[]∧Ωo=[]):=by
 refine Spec.of (L:=[(0,v0),(1,v1)]) Tryz.func158 rfl ⟨rfl,rfl,trivial⟩ rfl (λ e h=>?_)
 unfold Qch at hF
 refine sr (op (OpS.boxF h rfl rfl rfl (V.at .z) (λ u1 w1 h1=>?_)))
 refine ga rfl (nil (sr (op (OpS.fbox (o3:=0) h1 .z PA.z Qnr rfl rfl rfl rfl ?_))))
 refine op (OpS.loadBi h1 .z PA.a (Get.fld Sensor_.f0) ty5 rfl rfl rfl ?_)
 refine op (OpS.loadi h1 ty5 rfl rfl rfl (.s .z) ?_)
 refine gb rfl (ga rfl ?_)
 obtain ⟨x1,e1,hF⟩:=Qh hF
 refine RunL.nameb e1 ?_
 refine nil (Run.retP rfl (.tmp rfl .nil) ?_)
 cases hF
 exact Post.mk' ⟨rfl,rfl,rfl,rfl⟩ (h1.picks .nil) .nil
theorem Qbr {fuel:Nat} {a0:List Sensor_} {a1_0:Int} {y:Int} (hF:Qo fuel a0 a1_0=some y) {w:World} {v0 v1_0:Value} :
  Spec Tryz.prog 91 [v0,.func (.func 158) #[] #[v1_0]].toArray w [(false,.val (Rep.slice Sensor_.rep) v0 a0),(false,.ptr (Rep.int .u8) v1_0 a1_0)] [] (λ v Γr Ωr Ωo=>v=.int .i64 y∧Γr=[]∧Ωr=[]∧Ωo=[]):=by
 refine Spec.of (L:=[(0,v0),(1,.func (.func 158) #[] #[v1_0])]) Tryz.func91 rfl ⟨rfl,rfl,trivial⟩ rfl (λ e h=>?_)
 unfold Qo at hF
 refine sr (ga rfl (nil (Run.seq (sr (gm rfl (op (OpS.len h Tryz.underlying27 rfl rfl rfl (V.at .z) ?_)))))))
 refine gm rfl (nil (Run.block (Run.slim [(0,v0),(1,.func (.func 158) #[] #[v1_0]),(7,.int .i64 (a0.length:Int)),(8,.int .i64 0)] ⟨rfl,rfl,rfl,rfl,trivial⟩ ?_)))
 refine Run.loopP (σ:=Int) (λ s_ L_ w_=>L_=[(0,v0),(1,.func (.func 158) #[] #[v1_0]),(7,.int .i64 (a0.length:Int)),(8,.int .i64 s_)]∧St e w_ [(false,.val (Rep.slice Sensor_.rep) v0 a0),(false,.ptr (Rep.int .u8) v1_0 a1_0)] []) hF ⟨rfl,(h.facts (.atm .z (.atm (.s .z) .nil))).picks .nil⟩ (λ k1 hk1 s1 _ w1 hI hF=>?_)
 obtain ⟨rfl,h1⟩:=hI
 refine sr (gb rfl (nil (Run.seq ?_)))
 refine Run.ite rfl hF (λ e1 hF=>?_) (λ e1 hF=>?_)
 ·refine Run.skip (Run.seq (Run.block (sr (gm rfl (ga rfl (nil (sr (gm rfl (gm rfl (gm rfl ?_))))))))))
  obtain ⟨x1,e2,hF⟩:=Qa hF
  refine op (OpS.iptr h1 Tryz.underlying27 ty74 rfl rfl rfl rfl (V.at .z) e2 (λ u1 h2=>?_))
  refine op (OpS.load h2 ty74 rfl rfl rfl .z (λ u2 h3=>?_))
  obtain ⟨y1,e3,hF⟩:=Qa hF
  refine op (OpS.callPF (fl:=[]) (cl:=[v1_0]) h3 Tryz.func158 rfl rfl rfl rfl rfl (vs:=[u2]) rfl (Qhx e3) (.cons (f:=false) (V.at .z) (.ptr (.s (.s (.s .z))) .nil)) ?_)
  rintro _ w2 _ _ _ ⟨rfl,rfl,rfl,rfl⟩ h4
  have h5:=h4 rfl rfl
  simp only [ca,na] at h5
  refine nil ?_
  refine Run.ite rfl hF (λ e4 hF=>?_) (λ e4 hF=>?_)
  ·refine sr (gm rfl (ga rfl (nil (Run.retP rfl (.tmp rfl .nil) ?_))))
   cases hF
   exact Post.mk' ⟨rfl,rfl,rfl,rfl⟩ (h5.picks .nil) .nil
  refine Run.skip (Run.endBlock (Run.reg (gb rfl (gm rfl (nil (Run.slim [(0,v0),(1,.func (.func 158) #[] #[v1_0]),(7,.int .i64 (a0.length:Int)),(8,.int .i64 (IntKind.i64.wrap (s1+1)))] ⟨rfl,rfl,rfl,rfl,trivial⟩ ?_))))))
  exact hk1 ((IntKind.i64.wrap (s1+1))) _ _ ⟨rfl,(h5.facts (.atm (.s (.s .z)) (.atm (.s (.s (.s .z))) .nil))).picks .nil⟩ hF
 refine Run.exit rfl ?_
 refine sr (ga rfl (nil (Run.retP rfl (.tmp rfl .nil) ?_)))
 cases hF
 exact Post.mk' ⟨rfl,rfl,rfl,rfl⟩ (h1.picks .nil) .nil
theorem Qeb {fuel:Nat} {a0:Qd} {a1:Int} {y:Int} (hF:Qak fuel a0 a1=some y) {w:World} {v0 v0_0 v0_1:Value} :
  Spec Tryz.prog 94 [v0,.int .u8 a1].toArray w [] [(false,.box 184 (Qd.repW v0_0 v0_1) v0 a0),(false,.slice 188 Filter_.rep v0_0 a0.filters),(false,.slice 49 (Rep.int .u16) v0_1 a0.states)] (λ v Γr Ωr Ωo=>v=.int .i64 y∧Γr=[]∧Ωr=[]∧Ωo=[(false,.box 184 (Qd.repW v0_0 v0_1) v0 a0),(false,(.slice 188 Filter_.rep v0_0 a0.filters)),(false,(.slice 49 (Rep.int .u16) v0_1 a0.states))]):=by
 refine Spec.of (L:=[(0,v0),(1,.int .u8 a1)]) Tryz.func94 rfl ⟨rfl,rfl,trivial⟩ rfl (λ e h=>?_)
 unfold Qak at hF
 refine sr (op (OpS.box (f':=true) h rfl rfl rfl V.int (λ u1 w1 h1=>?_)))
 refine ga rfl (nil (sr (gm rfl (op (OpS.nchk h1 (.s .z) rfl rfl rfl ?_)))))
 refine op (OpS.fbox (o3:=0) h1 (.s .z) PA.z Qhm rfl rfl rfl rfl ?_)
 refine op (OpS.loadB (fr:=(Rep.slice Sensor_.rep)) h1 (.s .z) PA.a (GetS.ok (GetS.iso _ (GetS.here GetS.id))) (Ty.like ty27 (by rfl) (by rfl)) rfl rfl rfl (λ u2 h2=>?_))
 refine op (OpS.mkf (fl:=[]) (cl:=[u1]) rfl rfl rfl rfl ?_)
 have h3:=(h2.pick .z).freezeBox
 obtain ⟨y1,e1,hF⟩:=Qa hF
 refine op (OpS.callP h3 Tryz.func91 rfl rfl rfl rfl (vs:=[u2,.func (.func 158) #[] #[u1]]) rfl (Qbr e1) (.cons (f:=false) (V.at (.s .z)) (.ptr .z .nil)) ?_)
 rintro _ w2 _ _ _ ⟨rfl,rfl,rfl,rfl⟩ h4
 have h5:=h4 rfl rfl
 simp only [ca,na] at h5
 refine ga rfl (nil (Run.retP rfl (.tmp rfl .nil) ?_))
 cases hF
 exact Post.mk' ⟨rfl,rfl,rfl,rfl⟩ (h5.picks (.cons .z (.cons .z (.cons .z .nil)))) .nil
set_option maxHeartbeats 8000000 in set_option maxRecDepth 20000 in
theorem Qjl {fuel:Nat} {a0:Qd} {a1:List Sample_} {y:Int} (hF:Qbw fuel a0 a1=some y) {w:World} {v0 v0_0 v0_1 v1:Value} :
  Spec Tryz.prog 77 [v0,v1].toArray w [(false,.val (Rep.slice Sample_.rep) v1 a1)] [(false,.box 184 (Qd.repW v0_0 v0_1) v0 a0),(false,.slice 188 Filter_.rep v0_0 a0.filters),(false,.slice 49 (Rep.int .u16) v0_1 a0.states)] (λ v Γr Ωr Ωo=>v=.int .i64 y∧Γr=[]∧Ωr=[]∧Ωo=[(false,.box 184 (Qd.repW v0_0 v0_1) v0 a0),(false,(.slice 188 Filter_.rep v0_0 a0.filters)),(false,(.slice 49 (Rep.int .u16) v0_1 a0.states))]):=by
 refine Spec.of (L:=[(0,v0),(1,v1)]) Tryz.func77 rfl ⟨rfl,rfl,trivial⟩ rfl (λ e h=>?_)
 unfold Qbw at hF
 refine sr (ga rfl (nil (Run.seq (sr (gm rfl (op (OpS.len h Tryz.underlying41 rfl rfl rfl (V.at .z) ?_)))))))
 refine gm rfl (nil (Run.block (Run.slim [(0,v0),(1,v1),(9,v1),(10,.int .i64 (a1.length:Int)),(11,.int .i64 0)] ⟨rfl,rfl,rfl,rfl,rfl,trivial⟩ ?_)))
 refine Run.loopP (σ:=Int) (λ s_ L_ w_=>L_=[(0,v0),(1,v1),(9,v1),(10,.int .i64 (a1.length:Int)),(11,.int .i64 s_)]∧St e w_ [(false,.val (Rep.slice Sample_.rep) v1 a1)] [(false,.box 184 (Qd.repW v0_0 v0_1) v0 a0),(false,.slice 188 Filter_.rep v0_0 a0.filters),(false,.slice 49 (Rep.int .u16) v0_1 a0.states)]) hF ⟨rfl,(h.facts (.atm .z .nil)).picks (.cons .z (.cons .z (.cons .z .nil)))⟩ (λ k1 hk1 s1 _ w1 hI hF=>?_)
 obtain ⟨rfl,h1⟩:=hI
 refine sr (gb rfl (nil (Run.seq ?_)))
 refine Run.ite rfl hF (λ e1 hF=>?_) (λ e1 hF=>?_)
 ·refine Run.skip (Run.seq (Run.block (sr (gm rfl ?_))))
  obtain ⟨x1,e2,hF⟩:=Qa hF
  refine op (OpS.iptr h1 Tryz.underlying41 ty93 rfl rfl rfl rfl (V.at .z) e2 (λ u1 h2=>?_))
  refine op (OpS.load h2 ty93 rfl rfl rfl .z (λ u2 h3=>?_))
  refine op (OpS.alloc h3 ti93 Sample_.zr rfl rfl (λ u3 w2 h4=>?_))
  refine ga rfl ?_
  have h5:=(h4.pick .z).weak
  refine op (OpS.storeB (f':=false) h5 .z PA.z Put.id ty93 rfl rfl rfl (V.at .z) (.inr rfl) (λ w3 h6=>?_))
  refine nil (Run.seq (Run.seq ?_))
  refine Run.join (σ:=Bool) (λ s_ L_ w_=>L_=[(0,v0),(1,v1),(6,u3),(9,v1),(10,.int .i64 (a1.length:Int)),(11,.int .i64 s1),(43,.bool s_)]∧St e w_ [(false,.val (Rep.slice Sample_.rep) v1 a1)] [(false,.box 184 (Qd.repW v0_0 v0_1) v0 a0),(false,.box 93 Sample_.rep u3 x1),(false,.slice 188 Filter_.rep v0_0 a0.filters),(false,.slice 49 (Rep.int .u16) v0_1 a0.states)]) hF (λ s2 _ w4 hI hF=>?_) (λ j1 hj1 hF=>?_)
  ·obtain ⟨rfl,h7⟩:=hI
   refine Run.ite rfl hF (λ e3 hF=>?_) (λ e3 hF=>?_)
   ·refine sr (ga rfl (nil (Run.retP rfl (.tmp rfl .nil) ?_)))
    cases hF
    exact Post.mk' ⟨rfl,rfl,rfl,rfl⟩ (h7.picks (.cons .z (.cons (.s .z) (.cons (.s .z) .nil)))) .nil
   refine Run.skip (sr (gm rfl (op (OpS.fbox (o3:=0) h7 (.s .z) PA.z Qoh rfl rfl rfl rfl ?_))))
   refine op (OpS.loadBi h7 (.s .z) PA.a (Get.fld Sample_.f0) ty5 rfl rfl rfl ?_)
   obtain ⟨y1,e4,hF⟩:=Qa hF
   have h8:=h7.front (.cons .z (.cons (.s .z) (.cons (.s .z) .nil)))
   refine op (OpS.callO h8 Tryz.func94 rfl rfl rfl rfl (vs:=[v0,.int .u8 x1.Number]) rfl (Qeb e4) rfl .nil ?_)
   rintro _ w5 _ _ _ ⟨rfl,rfl,rfl,rfl⟩ h9
   have h10:=h9
   simp only [ca,na] at h10
   refine ga rfl (nil (Run.seq (sr (gm rfl (gb rfl (nil ?_))))))
   refine Run.ite rfl hF (λ e5 hF=>?_) (λ e5 hF=>?_)
   ·refine sr (ga rfl (nil (Run.retP rfl (.tmp rfl .nil) ?_)))
    cases hF
    exact Post.mk' ⟨rfl,rfl,rfl,rfl⟩ (h10.picks (.cons .z (.cons .z (.cons .z .nil)))) .nil
   refine Run.skip (sr (gm rfl (op (OpS.nchk h10 .z rfl rfl rfl ?_))))
   refine op (OpS.fbox (o3:=0) h10 .z PA.z Qhm rfl rfl rfl rfl ?_)
   refine op (OpS.loadB (fr:=(Rep.slice Sensor_.rep)) h10 .z PA.a (GetS.ok (GetS.iso _ (GetS.here GetS.id))) (Ty.like ty27 (by rfl) (by rfl)) rfl rfl rfl (λ u4 h11=>?_))
   refine gm rfl ?_
   obtain ⟨x2,e6,hF⟩:=Qa hF
   refine op (OpS.iptr h11 Tryz.underlying27 ty74 rfl rfl rfl rfl (V.at .z) e6 (λ u5 h12=>?_))
   refine op (OpS.load h12 ty74 rfl rfl rfl .z (λ u6 h13=>?_))
   refine op (OpS.alloc h13 ti74 Sensor_.zr rfl rfl (λ u7 w6 h14=>?_))
   have h15:=(h14.pick .z).weak
   refine op (OpS.storeB (f':=false) h15 .z PA.z Put.id ty74 rfl rfl rfl (V.at .z) (.inr rfl) (λ w7 h16=>?_))
   refine nil (Run.block (sr (op (OpS.fbox (o3:=6) h16 .z PA.z Qnn rfl rfl rfl rfl ?_))))
   refine op (OpS.loadBb h16 .z PA.a (Get.fld Sensor_.f5) ty4 rfl rfl rfl ?_)
   refine op (OpS.not rfl rfl rfl ?_)
   refine gm rfl ?_
   refine RunL.join (σ:=Bool) (λ s_ L_ w_=>L_=[(0,v0),(1,v1),(6,u3),(8,u7),(9,v1),(10,.int .i64 (a1.length:Int)),(11,.int .i64 s1),(57,.bool s_)]∧St e w_ [(false,.val (Rep.slice Sample_.rep) v1 a1)] [(false,.box 184 (Qd.repW v0_0 v0_1) v0 a0),(false,.box 93 Sample_.rep u3 x1),(false,.box 74 Sensor_.rep u7 x2),(false,.slice 188 Filter_.rep v0_0 a0.filters),(false,.slice 49 (Rep.int .u16) v0_1 a0.states)]) hF (λ s3 _ w8 hI hF=>?_) (λ j2 hj2 hF=>?_)
   ·obtain ⟨rfl,h17⟩:=hI
    refine Run.ite rfl hF (λ e7 hF=>?_) (λ e7 hF=>?_)
    ·refine sr (ga rfl (nil (Run.retP rfl (.tmp rfl .nil) ?_)))
     cases hF
     exact Post.mk' ⟨rfl,rfl,rfl,rfl⟩ (h17.picks (.cons .z (.cons (.s (.s .z)) (.cons (.s (.s .z)) .nil)))) .nil
    refine sr (op (OpS.fbox (o3:=3) h17 (.s .z) PA.z Qnw rfl rfl rfl rfl ?_))
    refine op (OpS.loadBi h17 (.s .z) PA.a (Get.fld Sample_.f3) ty49 rfl rfl rfl ?_)
    refine op (OpS.fbox (o3:=23) h17 (.s (.s .z)) PA.z Qen rfl rfl rfl rfl ?_)
    refine op (OpS.loadBi h17 (.s (.s .z)) PA.a (Get.fld Sensor_.f10) ty49 rfl rfl rfl ?_)
    refine gb rfl (gb rfl (ga rfl ?_))
    obtain ⟨x3,e8,hF⟩:=Qh hF
    refine RunL.nameb e8 ?_
    refine nil ?_
    refine Run.ite rfl hF (λ e9 hF=>?_) (λ e9 hF=>?_)
    ·refine sr (ga rfl (nil (Run.retP rfl (.tmp rfl .nil) ?_)))
     cases hF
     exact Post.mk' ⟨rfl,rfl,rfl,rfl⟩ (h17.picks (.cons .z (.cons (.s (.s .z)) (.cons (.s (.s .z)) .nil)))) .nil
    refine Run.skip (Run.endBlock (Run.endBlock (Run.reg (gb rfl (gm rfl (nil (Run.slim [(0,v0),(1,v1),(9,v1),(10,.int .i64 (a1.length:Int)),(11,.int .i64 (IntKind.i64.wrap (s1+1)))] ⟨rfl,rfl,rfl,rfl,rfl,trivial⟩ ?_)))))))
    exact hk1 ((IntKind.i64.wrap (s1+1))) _ _ ⟨rfl,(h17.facts (.atm .z .nil)).picks (.cons .z (.cons (.s (.s .z)) (.cons (.s (.s .z)) .nil)))⟩ hF
   refine RunL.caseb hF (λ e10 hF=>?_) (λ e10 hF=>?_)
   ·refine op (OpS.fbox (o3:=3) h16 (.s (.s (.s (.s .z)))) PA.z Qnw rfl rfl rfl rfl ?_)
    refine op (OpS.loadBi h16 (.s (.s (.s (.s .z)))) PA.a (Get.fld Sample_.f3) ty49 rfl rfl rfl ?_)
    refine gb rfl (gk rfl (gm rfl ?_))
    refine RunL.caseb hF (λ e11 hF=>?_) (λ e11 hF=>?_)
    ·refine gp rfl (gp rfl (gp rfl (gp rfl (gp rfl (gp rfl (gp rfl (gk rfl (ga rfl (nil (Run.slim [(57,.bool true),(8,u7),(0,v0),(1,v1),(6,u3),(9,v1),(10,.int .i64 (a1.length:Int)),(11,.int .i64 s1)] ⟨rfl,rfl,rfl,rfl,rfl,rfl,rfl,rfl,trivial⟩ ?_))))))))))
     refine Run.slim [(0,v0),(1,v1),(6,u3),(8,u7),(9,v1),(10,.int .i64 (a1.length:Int)),(11,.int .i64 s1),(57,.bool true)] ⟨rfl,rfl,rfl,rfl,rfl,rfl,rfl,rfl,trivial⟩ ?_
     exact hj2 (true) _ _ ⟨rfl,(h16.facts (.atm (.s (.s (.s .z))) .nil)).picks (.cons (.s .z) (.cons (.s (.s (.s .z))) (.cons .z (.cons .z (.cons .z .nil)))))⟩ hF
    refine op (OpS.fbox (o3:=6) h16 .z PA.z Qnn rfl rfl rfl rfl ?_)
    refine op (OpS.loadBb h16 .z PA.a (Get.fld Sensor_.f5) ty4 rfl rfl rfl ?_)
    refine gm rfl ?_
    refine RunL.caseb hF (λ e12 hF=>?_) (λ e12 hF=>?_)
    ·refine op (OpS.fbox (o3:=2) h16 (.s (.s (.s (.s .z)))) PA.z Qnx rfl rfl rfl rfl ?_)
     refine op (OpS.loadBi h16 (.s (.s (.s (.s .z)))) PA.a (Get.fld Sample_.f2) ty5 rfl rfl rfl ?_)
     refine gb rfl (gk rfl (gk rfl (ga rfl ?_)))
     obtain ⟨x4,e13,hF⟩:=Qh hF
     refine RunL.nameb e13 ?_
     refine nil (Run.slim [(57,.bool x4),(8,u7),(0,v0),(1,v1),(6,u3),(9,v1),(10,.int .i64 (a1.length:Int)),(11,.int .i64 s1)] ⟨rfl,rfl,rfl,rfl,rfl,rfl,rfl,rfl,trivial⟩ ?_)
     refine Run.slim [(0,v0),(1,v1),(6,u3),(8,u7),(9,v1),(10,.int .i64 (a1.length:Int)),(11,.int .i64 s1),(57,.bool x4)] ⟨rfl,rfl,rfl,rfl,rfl,rfl,rfl,rfl,trivial⟩ ?_
     exact hj2 (x4) _ _ ⟨rfl,(h16.facts (.atm (.s (.s (.s .z))) .nil)).picks (.cons (.s .z) (.cons (.s (.s (.s .z))) (.cons .z (.cons .z (.cons .z .nil)))))⟩ hF
    refine gp rfl (gp rfl (gp rfl (gk rfl (gk rfl (ga rfl (nil (Run.slim [(57,.bool false),(8,u7),(0,v0),(1,v1),(6,u3),(9,v1),(10,.int .i64 (a1.length:Int)),(11,.int .i64 s1)] ⟨rfl,rfl,rfl,rfl,rfl,rfl,rfl,rfl,trivial⟩ ?_)))))))
    refine Run.slim [(0,v0),(1,v1),(6,u3),(8,u7),(9,v1),(10,.int .i64 (a1.length:Int)),(11,.int .i64 s1),(57,.bool false)] ⟨rfl,rfl,rfl,rfl,rfl,rfl,rfl,rfl,trivial⟩ ?_
    exact hj2 (false) _ _ ⟨rfl,(h16.facts (.atm (.s (.s (.s .z))) .nil)).picks (.cons (.s .z) (.cons (.s (.s (.s .z))) (.cons .z (.cons .z (.cons .z .nil)))))⟩ hF
   refine gp rfl (gp rfl (gp rfl (gk rfl (gm rfl (op (OpS.fbox (o3:=6) h16 .z PA.z Qnn rfl rfl rfl rfl ?_))))))
   refine op (OpS.loadBb h16 .z PA.a (Get.fld Sensor_.f5) ty4 rfl rfl rfl ?_)
   refine gm rfl ?_
   refine RunL.caseb hF (λ e14 hF=>?_) (λ e14 hF=>?_)
   ·refine op (OpS.fbox (o3:=2) h16 (.s (.s (.s (.s .z)))) PA.z Qnx rfl rfl rfl rfl ?_)
    refine op (OpS.loadBi h16 (.s (.s (.s (.s .z)))) PA.a (Get.fld Sample_.f2) ty5 rfl rfl rfl ?_)
    refine gb rfl (gk rfl (gk rfl (ga rfl ?_)))
    obtain ⟨x5,e15,hF⟩:=Qh hF
    refine RunL.nameb e15 ?_
    refine nil (Run.slim [(57,.bool x5),(8,u7),(0,v0),(1,v1),(6,u3),(9,v1),(10,.int .i64 (a1.length:Int)),(11,.int .i64 s1)] ⟨rfl,rfl,rfl,rfl,rfl,rfl,rfl,rfl,trivial⟩ ?_)
    refine Run.slim [(0,v0),(1,v1),(6,u3),(8,u7),(9,v1),(10,.int .i64 (a1.length:Int)),(11,.int .i64 s1),(57,.bool x5)] ⟨rfl,rfl,rfl,rfl,rfl,rfl,rfl,rfl,trivial⟩ ?_
    exact hj2 (x5) _ _ ⟨rfl,(h16.facts (.atm (.s (.s (.s .z))) .nil)).picks (.cons (.s .z) (.cons (.s (.s (.s .z))) (.cons .z (.cons .z (.cons .z .nil)))))⟩ hF
   refine gp rfl (gp rfl (gp rfl (gk rfl (gk rfl (ga rfl (nil (Run.slim [(57,.bool false),(8,u7),(0,v0),(1,v1),(6,u3),(9,v1),(10,.int .i64 (a1.length:Int)),(11,.int .i64 s1)] ⟨rfl,rfl,rfl,rfl,rfl,rfl,rfl,rfl,trivial⟩ ?_)))))))
   refine Run.slim [(0,v0),(1,v1),(6,u3),(8,u7),(9,v1),(10,.int .i64 (a1.length:Int)),(11,.int .i64 s1),(57,.bool false)] ⟨rfl,rfl,rfl,rfl,rfl,rfl,rfl,rfl,trivial⟩ ?_
   exact hj2 (false) _ _ ⟨rfl,(h16.facts (.atm (.s (.s (.s .z))) .nil)).picks (.cons (.s .z) (.cons (.s (.s (.s .z))) (.cons .z (.cons .z (.cons .z .nil)))))⟩ hF
  obtain ⟨x6,e16,hF⟩:=Qh hF
  refine Qap hF (λ e17 hF=>?_) (λ e17 hF=>?_)
  ·have hG:=hF
   subst e17
   have hF:=hG
   obtain ⟨x7,e18,hF⟩:=Qa hF
   refine Run.drawV (Ωs:=[(false,.box 184 (Qd.repW v0_0 v0_1) v0 a0),(false,.slice 188 Filter_.rep v0_0 a0.filters),(false,.slice 49 (Rep.int .u16) v0_1 a0.states)]) [.k 16 (.int .i64 s1),.k 17 (.bool (decide (s1>0))),.k 18 (.bool true),.kr 19 (padd u3 0) [0],.kr 20 (.int .u8 x1.Number) [0],.k 21 v1,.k 22 (.int .i64 s1),.k 23 (.int .i64 (IntKind.i64.wrap (s1-1))),.f 24 (λ u_=>[(false,.ptr Sample_.rep u_ x7)]),.f 25 (λ u_=>[(false,.ptr (Rep.int .u8) u_ x7.Number)]),.k 26 (.int .u8 x7.Number)] [[],[0],[1],[2],[3,2],[2],[2],[6,2],[5,7,2],[8,2],[9,2]] [[(false,.box 93 Sample_.rep u3 x1)]] [0,1,2,3,4,5,6,7,8,9,10,11] Qi rfl rfl rfl h6 (.cons ?_ (.cons ?_ (.cons ?_ (.cons ?_ (.cons ?_ (.cons ?_ (.cons ?_ (.cons ?_ (.cons ?_ (.cons ?_ (.cons ?_ .nil))))))))))) (λ q1 w hq1 h=>?_)
   ·intro q1 w Γx Ωx h
    refine OpS.mv rfl rfl rfl ?_
    exact du h
   ·intro q1 w Γx Ωx h
    refine OpS.bin rfl rfl rfl rfl rfl ?_
    exact du h
   ·intro q1 w Γx Ωx h
    refine OpS.mv rfl rfl rfl ?_
    exact ⟨undef,(congrArg (λ z_=>some (Value.bool z_)) e16),trivial,h⟩
   ·intro q1 w Γx Ωx h
    refine OpS.fbox (o3:=0) h .z PA.z Qoh rfl rfl rfl rfl ?_
    exact du h
   ·intro q1 w Γx Ωx h
    refine OpS.loadBi h .z PA.a (Get.fld Sample_.f0) ty5 rfl rfl rfl ?_
    exact du h
   ·intro q1 w Γx Ωx h
    refine OpS.mv rfl rfl rfl ?_
    exact du h
   ·intro q1 w Γx Ωx h
    refine OpS.mv rfl rfl rfl ?_
    exact du h
   ·intro q1 w Γx Ωx h
    refine OpS.bin rfl rfl rfl rfl rfl ?_
    exact du h
   ·intro q1 w Γx Ωx h
    refine OpS.iptr h Tryz.underlying41 ty93 rfl rfl rfl rfl (V.at (.s (.s .z))) e18 (λ u h20=>?_)
    exact ⟨u,rfl,trivial,h20⟩
   ·intro q1 w Γx Ωx h
    refine OpS.fptr h Qoh Sample_.f0 rfl rfl rfl .z (λ u h21=>?_)
    exact ⟨u,rfl,trivial,h21⟩
   ·intro q1 w Γx Ωx h
    refine OpS.loadi h ty5 rfl rfl rfl .z ?_
    exact du h
   have h22:=h
   refine gb rfl (gk rfl (gm rfl ?_))
   refine RunL.caseb hF (λ e19 hF=>?_) (λ e19 hF=>?_)
   ·refine gp rfl (gp rfl (gp rfl (gp rfl (gp rfl (gp rfl (gp rfl (gp rfl (gp rfl (gp rfl (gp rfl (gp rfl (gp rfl (gk rfl (nil (Run.slim [(43,.bool true),(6,u3),(0,v0),(1,v1),(9,v1),(10,.int .i64 (a1.length:Int)),(11,.int .i64 s1)] ⟨rfl,rfl,rfl,rfl,rfl,rfl,rfl,trivial⟩ ?_)))))))))))))))
    refine Run.slim [(0,v0),(1,v1),(6,u3),(9,v1),(10,.int .i64 (a1.length:Int)),(11,.int .i64 s1),(43,.bool true)] ⟨rfl,rfl,rfl,rfl,rfl,rfl,rfl,trivial⟩ ?_
    exact hj1 (true) _ _ ⟨rfl,(h22.facts (.atm (.s (.s (.s (.s .z)))) .nil)).picks (.cons (.s .z) (.cons .z (.cons .z (.cons .z .nil))))⟩ hF
   refine op (OpS.fbox (o3:=1) h22 .z PA.z Qob rfl rfl rfl rfl ?_)
   refine op (OpS.loadBb h22 .z PA.a (Get.fld Sample_.f1) ty4 rfl rfl rfl ?_)
   refine op (OpS.not rfl rfl rfl ?_)
   refine gm rfl ?_
   refine RunL.caseb hF (λ e20 hF=>?_) (λ e20 hF=>?_)
   ·refine op (OpS.fbox (o3:=2) h22 .z PA.z Qnx rfl rfl rfl rfl ?_)
    refine op (OpS.loadBi h22 .z PA.a (Get.fld Sample_.f2) ty5 rfl rfl rfl ?_)
    refine gb rfl (gm rfl ?_)
    refine RunL.caseb hF (λ e21 hF=>?_) (λ e21 hF=>?_)
    ·refine gp rfl (gp rfl (gp rfl (gk rfl (gk rfl (gk rfl (nil (Run.slim [(43,.bool true),(6,u3),(0,v0),(1,v1),(9,v1),(10,.int .i64 (a1.length:Int)),(11,.int .i64 s1)] ⟨rfl,rfl,rfl,rfl,rfl,rfl,rfl,trivial⟩ ?_)))))))
     refine Run.slim [(0,v0),(1,v1),(6,u3),(9,v1),(10,.int .i64 (a1.length:Int)),(11,.int .i64 s1),(43,.bool true)] ⟨rfl,rfl,rfl,rfl,rfl,rfl,rfl,trivial⟩ ?_
     exact hj1 (true) _ _ ⟨rfl,(h22.facts (.atm (.s (.s (.s (.s .z)))) .nil)).picks (.cons (.s .z) (.cons .z (.cons .z (.cons .z .nil))))⟩ hF
    refine op (OpS.fbox (o3:=3) h22 .z PA.z Qnw rfl rfl rfl rfl ?_)
    refine op (OpS.loadBi h22 .z PA.a (Get.fld Sample_.f3) ty49 rfl rfl rfl ?_)
    refine gb rfl (gk rfl (gk rfl (gk rfl (nil (Run.slim [(43,.bool (x1.States != 0)),(6,u3),(0,v0),(1,v1),(9,v1),(10,.int .i64 (a1.length:Int)),(11,.int .i64 s1)] ⟨rfl,rfl,rfl,rfl,rfl,rfl,rfl,trivial⟩ ?_)))))
    refine Run.slim [(0,v0),(1,v1),(6,u3),(9,v1),(10,.int .i64 (a1.length:Int)),(11,.int .i64 s1),(43,.bool (x1.States != 0))] ⟨rfl,rfl,rfl,rfl,rfl,rfl,rfl,trivial⟩ ?_
    exact hj1 (x1.States != 0) _ _ ⟨rfl,(h22.facts (.atm (.s (.s (.s (.s .z)))) .nil)).picks (.cons (.s .z) (.cons .z (.cons .z (.cons .z .nil))))⟩ hF
   refine gp rfl (gp rfl (gp rfl (gp rfl (gp rfl (gp rfl (gp rfl (gp rfl (gk rfl (gk rfl (nil (Run.slim [(43,.bool false),(6,u3),(0,v0),(1,v1),(9,v1),(10,.int .i64 (a1.length:Int)),(11,.int .i64 s1)] ⟨rfl,rfl,rfl,rfl,rfl,rfl,rfl,trivial⟩ ?_)))))))))))
   refine Run.slim [(0,v0),(1,v1),(6,u3),(9,v1),(10,.int .i64 (a1.length:Int)),(11,.int .i64 s1),(43,.bool false)] ⟨rfl,rfl,rfl,rfl,rfl,rfl,rfl,trivial⟩ ?_
   exact hj1 (false) _ _ ⟨rfl,(h22.facts (.atm (.s (.s (.s (.s .z)))) .nil)).picks (.cons (.s .z) (.cons .z (.cons .z (.cons .z .nil))))⟩ hF
  have hG:=hF
  subst e17
  have hF:=hG
  refine Run.drawV (Ωs:=[(false,.box 184 (Qd.repW v0_0 v0_1) v0 a0),(false,.slice 188 Filter_.rep v0_0 a0.filters),(false,.slice 49 (Rep.int .u16) v0_1 a0.states)]) [.k 16 (.int .i64 s1),.k 17 (.bool (decide (s1>0))),.k 18 (.bool false),.k 19 undef,.k 20 undef,.k 21 undef,.k 22 undef,.k 23 undef,.k 24 undef,.k 25 undef,.k 26 undef] [[],[0],[1],[2],[2],[2],[2],[2],[2],[2],[2]] [[(false,.box 93 Sample_.rep u3 x1)]] [0,1,2,3,4,5,6,7,8,9,10,11] Qi rfl rfl rfl h6 (.cons ?_ (.cons ?_ (.cons ?_ (.cons (dp λ _=>rfl) (.cons (dp λ _=>rfl) (.cons (dp λ _=>rfl) (.cons (dp λ _=>rfl) (.cons (dp λ _=>rfl) (.cons (dp λ _=>rfl) (.cons (dp λ _=>rfl) (.cons (dp λ _=>rfl) .nil))))))))))) (λ q1 w hq2 h=>?_)
  ·intro q1 w Γx Ωx h
   refine OpS.mv rfl rfl rfl ?_
   exact du h
  ·intro q1 w Γx Ωx h
   refine OpS.bin rfl rfl rfl rfl rfl ?_
   exact du h
  ·intro q1 w Γx Ωx h
   refine OpS.mv rfl rfl rfl ?_
   exact ⟨undef,(congrArg (λ z_=>some (Value.bool z_)) e16),trivial,h⟩
  have h23:=h
  refine gp rfl (gk rfl (gm rfl (op (OpS.fbox (o3:=1) h23 .z PA.z Qob rfl rfl rfl rfl ?_))))
  refine op (OpS.loadBb h23 .z PA.a (Get.fld Sample_.f1) ty4 rfl rfl rfl ?_)
  refine op (OpS.not rfl rfl rfl ?_)
  refine gm rfl ?_
  refine RunL.caseb hF (λ e22 hF=>?_) (λ e22 hF=>?_)
  ·refine op (OpS.fbox (o3:=2) h23 .z PA.z Qnx rfl rfl rfl rfl ?_)
   refine op (OpS.loadBi h23 .z PA.a (Get.fld Sample_.f2) ty5 rfl rfl rfl ?_)
   refine gb rfl (gm rfl ?_)
   refine RunL.caseb hF (λ e23 hF=>?_) (λ e23 hF=>?_)
   ·refine gp rfl (gp rfl (gp rfl (gk rfl (gk rfl (gk rfl (nil (Run.slim [(43,.bool true),(6,u3),(0,v0),(1,v1),(9,v1),(10,.int .i64 (a1.length:Int)),(11,.int .i64 s1)] ⟨rfl,rfl,rfl,rfl,rfl,rfl,rfl,trivial⟩ ?_)))))))
    refine Run.slim [(0,v0),(1,v1),(6,u3),(9,v1),(10,.int .i64 (a1.length:Int)),(11,.int .i64 s1),(43,.bool true)] ⟨rfl,rfl,rfl,rfl,rfl,rfl,rfl,trivial⟩ ?_
    exact hj1 (true) _ _ ⟨rfl,(h23.facts (.atm (.s (.s .z)) .nil)).picks (.cons (.s .z) (.cons .z (.cons .z (.cons .z .nil))))⟩ hF
   refine op (OpS.fbox (o3:=3) h23 .z PA.z Qnw rfl rfl rfl rfl ?_)
   refine op (OpS.loadBi h23 .z PA.a (Get.fld Sample_.f3) ty49 rfl rfl rfl ?_)
   refine gb rfl (gk rfl (gk rfl (gk rfl (nil (Run.slim [(43,.bool (x1.States != 0)),(6,u3),(0,v0),(1,v1),(9,v1),(10,.int .i64 (a1.length:Int)),(11,.int .i64 s1)] ⟨rfl,rfl,rfl,rfl,rfl,rfl,rfl,trivial⟩ ?_)))))
   refine Run.slim [(0,v0),(1,v1),(6,u3),(9,v1),(10,.int .i64 (a1.length:Int)),(11,.int .i64 s1),(43,.bool (x1.States != 0))] ⟨rfl,rfl,rfl,rfl,rfl,rfl,rfl,trivial⟩ ?_
   exact hj1 (x1.States != 0) _ _ ⟨rfl,(h23.facts (.atm (.s (.s .z)) .nil)).picks (.cons (.s .z) (.cons .z (.cons .z (.cons .z .nil))))⟩ hF
  refine gp rfl (gp rfl (gp rfl (gp rfl (gp rfl (gp rfl (gp rfl (gp rfl (gk rfl (gk rfl (nil (Run.slim [(43,.bool false),(6,u3),(0,v0),(1,v1),(9,v1),(10,.int .i64 (a1.length:Int)),(11,.int .i64 s1)] ⟨rfl,rfl,rfl,rfl,rfl,rfl,rfl,trivial⟩ ?_)))))))))))
  refine Run.slim [(0,v0),(1,v1),(6,u3),(9,v1),(10,.int .i64 (a1.length:Int)),(11,.int .i64 s1),(43,.bool false)] ⟨rfl,rfl,rfl,rfl,rfl,rfl,rfl,trivial⟩ ?_
  exact hj1 (false) _ _ ⟨rfl,(h23.facts (.atm (.s (.s .z)) .nil)).picks (.cons (.s .z) (.cons .z (.cons .z (.cons .z .nil))))⟩ hF
 refine Run.exit rfl ?_
 refine sr (ga rfl (nil (Run.retP rfl (.tmp rfl .nil) ?_)))
 cases hF
 exact Post.mk' ⟨rfl,rfl,rfl,rfl⟩ (h1.picks (.cons .z (.cons .z (.cons .z .nil)))) .nil
theorem Qkm {fuel:Nat} {a0:Entity_} {a1:List Entity_} {y:Bool} (hF:Qee fuel a0 a1=some y) {w:World} {v0 v1:Value} :
  Spec Tryz.prog 206 [v0,v1].toArray w [(false,.val Entity_.rep v0 a0),(false,.ptr (Rep.slice Entity_.rep) v1 a1)] [] (λ v Γr Ωr Ωo=>v=.bool y∧Γr=[]∧Ωr=[]∧Ωo=[]):=by
 refine Spec.of (L:=[(0,v0),(1,v1)]) Tryz.func206 rfl ⟨rfl,rfl,trivial⟩ rfl (λ e h=>?_)
 unfold Qee at hF
 refine sr (op (OpS.boxF h rfl rfl rfl (V.at .z) (λ u1 w1 h1=>?_)))
 refine ga rfl (nil (sr (op (OpS.load h1 ty43 rfl rfl rfl (.s .z) (λ u2 h2=>?_)))))
 refine op (OpS.loadB h2 .z PA.z Get.id ty66 rfl rfl rfl (λ u3 h3=>?_))
 obtain ⟨y1,e1,hF⟩:=Qa hF
 refine op (OpS.callP h3 Tryz.func160 rfl rfl rfl rfl (vs:=[u2,u3]) rfl (Qav e1) (.cons (f:=false) (V.at (.s .z)) (.cons (f:=false) (V.at .z) .nil)) ?_)
 rintro _ w2 _ _ _ ⟨rfl,rfl,rfl,rfl⟩ h4
 have h5:=h4 rfl rfl
 simp only [ca,na] at h5
 refine ga rfl (nil (Run.retP rfl (.tmp rfl .nil) ?_))
 cases hF
 exact Post.mk' ⟨rfl,rfl,rfl,rfl⟩ (h5.picks .nil) .nil
theorem Qco {fuel:Nat} {a0:List Entity_} {a1_0:List Entity_} {y:Int} (hF:Qz fuel a0 a1_0=some y) {w:World} {v0 v1_0:Value} :
  Spec Tryz.prog 240 [v0,.func (.func 206) #[] #[v1_0]].toArray w [(false,.val (Rep.slice Entity_.rep) v0 a0),(false,.ptr (Rep.slice Entity_.rep) v1_0 a1_0)] [] (λ v Γr Ωr Ωo=>v=.int .i64 y∧Γr=[]∧Ωr=[]∧Ωo=[]):=by
 refine Spec.of (L:=[(0,v0),(1,.func (.func 206) #[] #[v1_0])]) Tryz.func240 rfl ⟨rfl,rfl,trivial⟩ rfl (λ e h=>?_)
 unfold Qz at hF
 refine sr (ga rfl (nil (Run.seq (sr (gm rfl (op (OpS.len h Tryz.underlying43 rfl rfl rfl (V.at .z) ?_)))))))
 refine gm rfl (nil (Run.block (Run.slim [(0,v0),(1,.func (.func 206) #[] #[v1_0]),(7,.int .i64 (a0.length:Int)),(8,.int .i64 0)] ⟨rfl,rfl,rfl,rfl,trivial⟩ ?_)))
 refine Run.loopP (σ:=Int) (λ s_ L_ w_=>L_=[(0,v0),(1,.func (.func 206) #[] #[v1_0]),(7,.int .i64 (a0.length:Int)),(8,.int .i64 s_)]∧St e w_ [(false,.val (Rep.slice Entity_.rep) v0 a0),(false,.ptr (Rep.slice Entity_.rep) v1_0 a1_0)] []) hF ⟨rfl,(h.facts (.atm .z (.atm (.s .z) .nil))).picks .nil⟩ (λ k1 hk1 s1 _ w1 hI hF=>?_)
 obtain ⟨rfl,h1⟩:=hI
 refine sr (gb rfl (nil (Run.seq ?_)))
 refine Run.ite rfl hF (λ e1 hF=>?_) (λ e1 hF=>?_)
 ·refine Run.skip (Run.seq (Run.block (sr (gm rfl (ga rfl (nil (sr (gm rfl (gm rfl (gm rfl ?_))))))))))
  obtain ⟨x1,e2,hF⟩:=Qa hF
  refine op (OpS.iptr h1 Tryz.underlying43 ty66 rfl rfl rfl rfl (V.at .z) e2 (λ u1 h2=>?_))
  refine op (OpS.load h2 ty66 rfl rfl rfl .z (λ u2 h3=>?_))
  obtain ⟨y1,e3,hF⟩:=Qa hF
  refine op (OpS.callPF (fl:=[]) (cl:=[v1_0]) h3 Tryz.func206 rfl rfl rfl rfl rfl (vs:=[u2]) rfl (Qkm e3) (.cons (f:=false) (V.at .z) (.ptr (.s (.s (.s .z))) .nil)) ?_)
  rintro _ w2 _ _ _ ⟨rfl,rfl,rfl,rfl⟩ h4
  have h5:=h4 rfl rfl
  simp only [ca,na] at h5
  refine nil ?_
  refine Run.ite rfl hF (λ e4 hF=>?_) (λ e4 hF=>?_)
  ·refine sr (gm rfl (ga rfl (nil (Run.retP rfl (.tmp rfl .nil) ?_))))
   cases hF
   exact Post.mk' ⟨rfl,rfl,rfl,rfl⟩ (h5.picks .nil) .nil
  refine Run.skip (Run.endBlock (Run.reg (gb rfl (gm rfl (nil (Run.slim [(0,v0),(1,.func (.func 206) #[] #[v1_0]),(7,.int .i64 (a0.length:Int)),(8,.int .i64 (IntKind.i64.wrap (s1+1)))] ⟨rfl,rfl,rfl,rfl,trivial⟩ ?_))))))
  exact hk1 ((IntKind.i64.wrap (s1+1))) _ _ ⟨rfl,(h5.facts (.atm (.s (.s .z)) (.atm (.s (.s (.s .z))) .nil))).picks .nil⟩ hF
 refine Run.exit rfl ?_
 refine sr (ga rfl (nil (Run.retP rfl (.tmp rfl .nil) ?_)))
 cases hF
 exact Post.mk' ⟨rfl,rfl,rfl,rfl⟩ (h1.picks .nil) .nil
theorem Qca {fuel:Nat} {a0:List Entity_} {a1_0:List Entity_} {y:Bool} (hF:Qv fuel a0 a1_0=some y) {w:World} {v0 v1_0:Value} :
  Spec Tryz.prog 205 [v0,.func (.func 206) #[] #[v1_0]].toArray w [(false,.val (Rep.slice Entity_.rep) v0 a0),(false,.ptr (Rep.slice Entity_.rep) v1_0 a1_0)] [] (λ v Γr Ωr Ωo=>v=.bool y∧Γr=[]∧Ωr=[]∧Ωo=[]):=by
 refine Spec.of (L:=[(0,v0),(1,.func (.func 206) #[] #[v1_0])]) Tryz.func205 rfl ⟨rfl,rfl,trivial⟩ rfl (λ e h=>?_)
 unfold Qv at hF
 refine sr (ga rfl (nil (sr (gm rfl (gm rfl ?_)))))
 obtain ⟨y1,e1,hF⟩:=Qa hF
 refine op (OpS.callP h Tryz.func240 rfl rfl rfl rfl (vs:=[v0,.func (.func 206) #[] #[v1_0]]) rfl (Qco e1) (.cons (f:=false) (V.at .z) (.ptr (.s .z) .nil)) ?_)
 rintro _ w1 _ _ _ ⟨rfl,rfl,rfl,rfl⟩ h1
 have h2:=h1 rfl rfl
 simp only [ca,na] at h2
 refine gb rfl (ga rfl ?_)
 obtain ⟨x1,e2,hF⟩:=Qh hF
 refine RunL.nameb e2 ?_
 refine nil (Run.retP rfl (.tmp rfl .nil) ?_)
 cases hF
 exact Post.mk' ⟨rfl,rfl,rfl,rfl⟩ (h2.picks .nil) .nil
set_option maxRecDepth 20000 in
theorem Qmf {fuel:Nat} {a0:List Association_} {a1:List Entity_} {a2:Entity_} {y:Bool} (hF:Qgb fuel a0 a1 a2=some y) {w:World} {v0 v1 v2:Value} :
  Spec Tryz.prog 149 [v0,v1,v2].toArray w [(false,.val (Rep.slice Association_.rep) v0 a0),(false,.val (Rep.slice Entity_.rep) v1 a1),(false,.val Entity_.rep v2 a2)] [] (λ v Γr Ωr Ωo=>v=.bool y∧Γr=[]∧Ωr=[]∧Ωo=[]):=by
 refine Spec.of (L:=[(0,v0),(1,v1),(2,v2)]) Tryz.func149 rfl ⟨rfl,rfl,rfl,trivial⟩ rfl (λ e h=>?_)
 unfold Qgb at hF
 refine sr (op (OpS.boxF h rfl rfl rfl (V.at (.s .z)) (λ u1 w1 h1=>?_)))
 refine op (OpS.boxF h1 rfl rfl rfl (V.at (.s (.s .z))) (λ u2 w2 h2=>?_))
 refine ga rfl (nil (Run.seq ?_))
 obtain ⟨y1,e1,hF⟩:=Qa hF
 obtain ⟨x1,e2,hF⟩:=Qa hF
 refine Run.drawV (Ωs:=[(false,.box 43 (Rep.slice Entity_.rep) u1 a1)]) [.k 7 v0,.fr 8 (λ u_=>[(false,.val Entity_.rep u_ a2)]) [0],⟨some 9,none,λ u_=>[],λ ds_ u_=>[(true,.slice 66 Entity_.rep u_ y1)],[],[],none⟩,.fr 10 (λ u_=>[(false,.val Entity_.rep u_ a2)]) [0],.f 11 (λ u_=>[(false,.val (Rep.slice Entity_.rep) u_ ([a2]))]),⟨some 12,none,λ u_=>[],λ ds_ u_=>[(true,.slice 66 Entity_.rep u_ x1)],[3],[],none⟩,.k 13 (.func (.func 206) #[] #[u1])] [[],[],[0,1],[],[3],[2,4],[]] [[(false,.box 66 Entity_.rep u2 a2)]] [0,1,2,4,5,6,7] Qi rfl rfl rfl h2 (.cons ?_ (.cons ?_ (.cons ?_ (.cons ?_ (.cons ?_ (.cons ?_ (.cons ?_ .nil))))))) (λ q1 w hq1 h=>?_)
 ·intro q1 w Γx Ωx h
  refine OpS.mv rfl rfl rfl ?_
  exact du h
 ·intro q1 w Γx Ωx h
  refine OpS.loadB h .z PA.z Get.id ty66 rfl rfl rfl (λ u h9=>?_)
  exact ⟨u,rfl,trivial,h9⟩
 ·intro q1 w Γx Ωx h
  refine OpS.callP h Tryz.func161 rfl rfl rfl rfl (vs:=[v0,(q1 1)]) rfl (Qjj e1) (.cons (f:=false) (V.at (.s .z)) (.cons (f:=false) (V.at .z) .nil)) ?_
  rintro u w6 _ _ _ ⟨_,rfl,rfl,rfl,rfl⟩ h10
  have h11:=h10 rfl rfl
  simp only [ca,na] at h11
  exact ⟨u,rfl,trivial,h11⟩
 ·intro q1 w Γx Ωx h
  refine OpS.loadB h .z PA.z Get.id ty66 rfl rfl rfl (λ u h12=>?_)
  exact ⟨u,rfl,trivial,h12⟩
 ·intro q1 w Γx Ωx h
  refine OpS.lit (r:=Entity_.rep) (f:=false) h Tryz.underlying43 ti66 rfl rfl rfl rfl rfl (.cons rfl (V.at .z) .nil) rfl rfl (λ u w7 h13=>?_)
  exact ⟨u,rfl,trivial,h13⟩
 ·intro q1 w Γx Ωx h
  refine OpS.app (f':=false) h .z Tryz.underlying43 ti66 rfl rfl rfl rfl rfl rfl rfl (V.at .z) (.inr Entity_.pure) e2 (λ u w8 h14=>?_)
  exact ⟨u,rfl,trivial,h14⟩
 ·intro q1 w Γx Ωx h
  refine OpS.mkf (fl:=[]) (cl:=[u1]) rfl rfl rfl rfl ?_
  exact du h
 have h15:=h
 obtain ⟨y2,e3,hF⟩:=Qa hF
 refine op (OpS.callP h15 Tryz.func205 rfl rfl rfl rfl (vs:=[(q1 5),.func (.func 206) #[] #[u1]]) rfl (Qca e3) (.own (.s .z) (.box (.s (.s .z)) .nil)) ?_)
 rintro _ w9 _ _ _ ⟨rfl,rfl,rfl,rfl⟩ h16
 have h17:=h16 rfl rfl
 simp only [ca,na] at h17
 refine op (OpS.not rfl rfl rfl ?_)
 refine ga rfl ?_
 obtain ⟨x2,e4,hF⟩:=Qh hF
 refine RunL.nameb e4 ?_
 refine nil (Run.retP rfl (.tmp rfl .nil) ?_)
 cases hF
 exact Post.mk' ⟨rfl,rfl,rfl,rfl⟩ (h17.picks .nil) .nil
theorem Qmd {fuel:Nat} {a0:List Association_} {a1:List Entity_} {a2:Entity_} {y:Bool×Int} (hF:Qdo fuel a0 a1 a2=some y) {w:World} {v0 v1 v2:Value} :
  Spec Tryz.prog 78 [v0,v1,v2].toArray w [(false,.val (Rep.slice Association_.rep) v0 a0),(false,.val (Rep.slice Entity_.rep) v1 a1),(false,.val Entity_.rep v2 a2)] [] (λ v Γr Ωr Ωo=>v=.tuple #[.bool y.1,.int .i64 y.2]∧Γr=[]∧Ωr=[]∧Ωo=[]):=by
 refine Spec.of (L:=[(0,v0),(1,v1),(2,v2)]) Tryz.func78 rfl ⟨rfl,rfl,rfl,trivial⟩ rfl (λ e h=>?_)
 unfold Qdo at hF
 refine sr (op (OpS.boxF h rfl rfl rfl (V.at (.s (.s .z))) (λ u1 w1 h1=>?_)))
 refine ga rfl (ga rfl (nil (Run.seq (sr (gm rfl ?_)))))
 obtain ⟨y1,e1,hF⟩:=Qa hF
 refine op (OpS.callP h1 Tryz.func96 rfl rfl rfl rfl (vs:=[v0]) rfl (Qjv e1) (.cons (f:=false) (V.at .z) .nil) ?_)
 rintro _ w2 _ _ _ ⟨rfl,rfl,rfl,rfl⟩ h2
 have h3:=h2 rfl rfl
 simp only [ca,na] at h3
 refine ga rfl (nil (sr (gm rfl (gb rfl (nil ?_)))))
 refine Run.ite rfl hF (λ e2 hF=>?_) (λ e2 hF=>?_)
 ·refine sr (gm rfl (ga rfl (ga rfl (nil (Run.retP rfl (.tmp rfl (.tmp rfl .nil)) ?_)))))
  cases hF
  exact Post.mk' ⟨rfl,rfl,rfl,rfl⟩ (h3.picks .nil) .nil
 refine Run.skip (sr (gm rfl (gm rfl (op (OpS.loadB h3 .z PA.z Get.id ty66 rfl rfl rfl (λ u2 h4=>?_))))))
 obtain ⟨y2,e3,hF⟩:=Qa hF
 refine op (OpS.callP h4 Tryz.func149 rfl rfl rfl rfl (vs:=[v0,v1,u2]) rfl (Qmf e3) (.cons (f:=false) (V.at (.s .z)) (.cons (f:=false) (V.at (.s (.s .z))) (.cons (f:=false) (V.at .z) .nil))) ?_)
 rintro _ w3 _ _ _ ⟨rfl,rfl,rfl,rfl⟩ h5
 have h6:=h5 rfl rfl
 simp only [ca,na] at h6
 refine ga rfl (ga rfl (nil (Run.retP rfl (.tmp rfl (.tmp rfl .nil)) ?_)))
 cases hF
 exact Post.mk' ⟨rfl,rfl,rfl,rfl⟩ (h6.picks .nil) .nil
theorem Qmm {fuel:Nat} {a0:Sensor_} {a1:Int} {a2:Int} {y:Int×(List Change_)×Int} (hF:Qfj fuel a0 a1 a2=some y) {w:World} {v0:Value} :
  Spec Tryz.prog 150 [v0,.int .u16 a1,.int .u16 a2].toArray w [(false,.val Sensor_.rep v0 a0)] [] (λ v Γr Ωr Ωo=>∃ u1:Value,v=.tuple #[.int .u16 y.1,u1,.int .i64 y.2.2]∧Γr=[]∧Ωr=[(true,(.slice 288 Change_.rep u1 y.2.1))]∧Ωo=[]):=by
 refine Spec.of (L:=[(0,v0),(1,.int .u16 a1),(2,.int .u16 a2)]) Tryz.func150 rfl ⟨rfl,rfl,rfl,trivial⟩ rfl (λ e h=>?_)
 unfold Qfj at hF
 refine sr (op (OpS.boxF h rfl rfl rfl (V.at .z) (λ u1 w1 h1=>?_)))
 refine ga rfl (ga rfl (ga rfl (nil (Run.seq (Run.block (sr (op (OpS.fbox (o3:=6) h1 .z PA.z Qnn rfl rfl rfl rfl ?_))))))))
 refine op (OpS.loadBb h1 .z PA.a (Get.fld Sensor_.f5) ty4 rfl rfl rfl ?_)
 refine op (OpS.not rfl rfl rfl ?_)
 refine gm rfl ?_
 refine RunL.join (σ:=Bool) (λ s_ L_ w_=>L_=[(1,.int .u16 a1),(2,.int .u16 a2),(3,u1),(11,.bool s_)]∧St e w_ [] [(false,.box 74 Sensor_.rep u1 a0)]) hF (λ s1 _ w2 hI hF=>?_) (λ j1 hj1 hF=>?_)
 ·obtain ⟨rfl,h2⟩:=hI
  refine Run.ite rfl hF (λ e1 hF=>?_) (λ e1 hF=>?_)
  ·refine sr (ga rfl (ga rfl (ga rfl (nil ?_))))
   have h3:=St.nil 288 Change_.rep h2
   refine Run.retP rfl (.tmp rfl (.tmp rfl (.tmp rfl .nil))) ?_
   cases hF
   exact Post.mk' ⟨(.slice none 0 0),rfl,rfl,rfl,rfl⟩ (h3.picks (.cons .z .nil)) .nil
  refine sr (gm rfl (gm rfl (gb rfl (op (OpS.fbox (o3:=23) h2 .z PA.z Qen rfl rfl rfl rfl ?_)))))
  refine op (OpS.loadBi h2 .z PA.a (Get.fld Sensor_.f10) ty49 rfl rfl rfl ?_)
  refine gb rfl (gb rfl (ga rfl ?_))
  obtain ⟨x1,e2,hF⟩:=Qh hF
  refine RunL.nameb e2 ?_
  refine nil ?_
  refine Run.ite rfl hF (λ e3 hF=>?_) (λ e3 hF=>?_)
  ·refine sr (ga rfl (ga rfl (ga rfl (nil ?_))))
   have h4:=St.nil 288 Change_.rep h2
   refine Run.retP rfl (.tmp rfl (.tmp rfl (.tmp rfl .nil))) ?_
   cases hF
   exact Post.mk' ⟨(.slice none 0 0),rfl,rfl,rfl,rfl⟩ (h4.picks (.cons .z .nil)) .nil
  refine Run.skip (Run.endBlock (sr (ga rfl (nil (Run.seq (sr (gm rfl (nil (Run.block ?_)))))))))
  have h5:=St.nil 288 Change_.rep h2
  refine Run.slim [(1,.int .u16 a1),(2,.int .u16 a2),(9,(.slice none 0 0)),(28,.int .i64 0)] ⟨rfl,rfl,rfl,rfl,trivial⟩ ?_
  refine Run.loopP (σ:=(Int×(List Change_))) (λ s_ L_ w_=>∃ u0_:Value,L_=[(1,.int .u16 a1),(2,.int .u16 a2),(9,u0_),(28,.int .i64 s_.1)]∧St e w_ [] [(true,.slice 288 Change_.rep u0_ s_.2)]) hF ⟨(.slice none 0 0),rfl,(h5.facts .nil).picks (.cons .z .nil)⟩ (λ k1 hk1 s2 _ w3 hI hF=>?_)
  obtain ⟨u2,rfl,h6⟩:=hI
  refine sr (gb rfl (nil (Run.seq ?_)))
  refine Run.ite rfl hF (λ e4 hF=>?_) (λ e4 hF=>?_)
  ·refine Run.skip (Run.seq (Run.block (sr (gm rfl (ga rfl (nil (sr (gm rfl (gm rfl (gb rfl (gm rfl ?_)))))))))))
   obtain ⟨e5,hF⟩:=Qr hF
   refine op (OpS.shr rfl rfl rfl rfl e5 ?_)
   refine gb rfl (gb rfl (nil ?_))
   refine Run.ite rfl hF (λ e6 hF=>?_) (λ e6 hF=>?_)
   ·refine Run.reg (gm rfl (gm rfl (gm rfl (gm rfl ?_))))
    obtain ⟨e7,hF⟩:=Qr hF
    refine op (OpS.shr rfl rfl rfl rfl e7 ?_)
    refine gb rfl (gb rfl (op (OpS.build (f:=true) (x':=(⟨s2.1,(bAnd .u16 (bShr .u16 a2 s2.1) 1)==1⟩:Change_)) h6 pl288 ti288 Change_.zr rfl rfl rfl (.cons rfl Change_.f0 rfl V.int (.cons rfl Change_.f1 rfl V.bool .nil)) (λ u3 h7=>?_))))
    refine op (OpS.lit (r:=Change_.rep) (f:=true) h7 Tryz.underlying191 ti288 rfl rfl rfl rfl rfl (.cons rfl (V.at .z) .nil) rfl rfl (λ u4 w4 h8=>?_))
    obtain ⟨x2,e8,hF⟩:=Qa hF
    refine op (OpS.app (f':=true) h8 .z Tryz.underlying191 ti288 rfl rfl rfl rfl rfl rfl rfl (V.at .z) (.inr Change_.pure) e8 (λ u5 w5 h9=>?_))
    refine ga rfl (nil (Run.endBlock (Run.reg (gb rfl (gm rfl (nil (Run.slim [(1,.int .u16 a1),(2,.int .u16 a2),(9,u5),(28,.int .i64 (IntKind.i64.wrap (s2.1+1)))] ⟨rfl,rfl,rfl,rfl,trivial⟩ ?_)))))))
    exact hk1 ((IntKind.i64.wrap (s2.1+1)),x2) _ _ ⟨u5,rfl,(h9.facts .nil).picks (.cons .z .nil)⟩ hF
   refine Run.skip (Run.endBlock (Run.reg (gb rfl (gm rfl (nil (Run.slim [(1,.int .u16 a1),(2,.int .u16 a2),(9,u2),(28,.int .i64 (IntKind.i64.wrap (s2.1+1)))] ⟨rfl,rfl,rfl,rfl,trivial⟩ ?_))))))
   exact hk1 ((IntKind.i64.wrap (s2.1+1)),s2.2) _ _ ⟨u2,rfl,(h6.facts .nil).picks (.cons .z .nil)⟩ hF
  refine Run.exit rfl ?_
  refine sr (gm rfl (gm rfl (ga rfl (ga rfl (ga rfl (nil (Run.retP rfl (.tmp rfl (.tmp rfl (.tmp rfl .nil))) ?_)))))))
  cases hF
  exact Post.mk' ⟨u2,rfl,rfl,rfl,rfl⟩ (h6.picks (.cons .z .nil)) .nil
 refine RunL.caseb hF (λ e9 hF=>?_) (λ e9 hF=>?_)
 ·refine gp rfl (gp rfl (gp rfl (gk rfl (ga rfl (nil (Run.slim [(1,.int .u16 a1),(2,.int .u16 a2),(3,u1),(11,.bool true)] ⟨rfl,rfl,rfl,rfl,trivial⟩ ?_))))))
  exact hj1 (true) _ _ ⟨rfl,(h1.facts .nil).picks (.cons .z .nil)⟩ hF
 refine op (OpS.loadB h1 .z PA.z Get.id ty74 rfl rfl rfl (λ u6 h10=>?_))
 obtain ⟨y1,e10,hF⟩:=Qa hF
 refine op (OpS.callP h10 Tryz.func107 rfl rfl rfl rfl (vs:=[u6]) rfl (Qcw e10) (.cons (f:=false) (V.at .z) .nil) ?_)
 rintro _ w6 _ _ _ ⟨rfl,rfl,rfl,rfl⟩ h11
 have h12:=h11 rfl rfl
 simp only [ca,na] at h12
 refine op (OpS.not rfl rfl rfl ?_)
 refine gk rfl (ga rfl ?_)
 obtain ⟨x3,e11,hF⟩:=Qh hF
 refine RunL.nameb e11 ?_
 refine nil (Run.slim [(1,.int .u16 a1),(2,.int .u16 a2),(3,u1),(11,.bool x3)] ⟨rfl,rfl,rfl,rfl,trivial⟩ ?_)
 exact hj1 (x3) _ _ ⟨rfl,(h12.facts .nil).picks (.cons .z .nil)⟩ hF
theorem Qik {fuel:Nat} {a0:Sensor_} {a1:Filter_} {y:Bool} (hF:Qdi fuel a0 a1=some y) {w:World} {v0 v1:Value} :
  Spec Tryz.prog 162 [v0,v1].toArray w [(false,.val Sensor_.rep v0 a0),(false,.val Filter_.rep v1 a1)] [] (λ v Γr Ωr Ωo=>v=.bool y∧Γr=[]∧Ωr=[]∧Ωo=[]):=by
 refine Spec.of (L:=[(0,v0),(1,v1)]) Tryz.func162 rfl ⟨rfl,rfl,trivial⟩ rfl (λ e h=>?_)
 unfold Qdi at hF
 refine sr (op (OpS.boxF h rfl rfl rfl (V.at .z) (λ u1 w1 h1=>?_)))
 refine op (OpS.boxF h1 rfl rfl rfl (V.at (.s .z)) (λ u2 w2 h2=>?_))
 refine ga rfl (nil (Run.seq (sr (op (OpS.loadB h2 (.s .z) PA.z Get.id ty74 rfl rfl rfl (λ u3 h3=>?_))))))
 obtain ⟨y1,e1,hF⟩:=Qa hF
 refine op (OpS.callP h3 Tryz.func107 rfl rfl rfl rfl (vs:=[u3]) rfl (Qcw e1) (.cons (f:=false) (V.at .z) .nil) ?_)
 rintro _ w3 _ _ _ ⟨rfl,rfl,rfl,rfl⟩ h4
 have h5:=h4 rfl rfl
 simp only [ca,na] at h5
 refine op (OpS.not rfl rfl rfl ?_)
 refine gm rfl ?_
 refine RunL.join (σ:=Bool) (λ s_ L_ w_=>L_=[(3,u2),(25,.bool s_)]∧St e w_ [] [(false,.box 188 Filter_.rep u2 a1)]) hF (λ s1 _ w4 hI hF=>?_) (λ j1 hj1 hF=>?_)
 ·obtain ⟨rfl,h6⟩:=hI
  refine Run.ite rfl hF (λ e2 hF=>?_) (λ e2 hF=>?_)
  ·refine sr (ga rfl (nil (Run.retP rfl (.tmp rfl .nil) ?_)))
   cases hF
   exact Post.mk' ⟨rfl,rfl,rfl,rfl⟩ (h6.picks .nil) .nil
  refine Run.skip (sr (op (OpS.fbox (o3:=1) h6 .z PA.z Qix rfl rfl rfl rfl ?_)))
  refine op (OpS.loadBi h6 .z PA.a (Get.fld Filter_.f1) ty3 rfl rfl rfl ?_)
  refine gb rfl (gm rfl ?_)
  refine RunL.caseb hF (λ e3 hF=>?_) (λ e3 hF=>?_)
  ·refine gp rfl (gp rfl (gp rfl (gp rfl (gk rfl (ga rfl (nil (Run.retP rfl (.tmp rfl .nil) ?_)))))))
   cases hF
   exact Post.mk' ⟨rfl,rfl,rfl,rfl⟩ (h6.picks .nil) .nil
  refine op (OpS.fbox (o3:=0) h6 .z PA.z Qew rfl rfl rfl rfl ?_)
  refine op (OpS.loadB h6 .z PA.a (Get.fld Filter_.f0) ty24 rfl rfl rfl (λ u4 h7=>?_))
  refine op (OpS.len h7 Tryz.underlying24 rfl rfl rfl (V.at .z) ?_)
  refine gb rfl (gk rfl (ga rfl ?_))
  obtain ⟨x1,e4,hF⟩:=Qh hF
  refine RunL.nameb e4 ?_
  refine nil (Run.retP rfl (.tmp rfl .nil) ?_)
  cases hF
  exact Post.mk' ⟨rfl,rfl,rfl,rfl⟩ (h7.picks .nil) .nil
 refine RunL.caseb hF (λ e5 hF=>?_) (λ e5 hF=>?_)
 ·refine gp rfl (gp rfl (gp rfl (gp rfl (gp rfl (gp rfl (gk rfl (gm rfl (gp rfl (gp rfl (gp rfl (gk rfl (gm rfl (gp rfl (gp rfl (gp rfl (gk rfl ?_))))))))))))))))
  refine nil (Run.slim [(3,u2),(25,.bool true)] ⟨rfl,rfl,trivial⟩ ?_)
  exact hj1 (true) _ _ ⟨rfl,(h5.facts .nil).picks (.cons .z .nil)⟩ hF
 refine op (OpS.fbox (o3:=0) h5 .z PA.z Qew rfl rfl rfl rfl ?_)
 refine op (OpS.loadB h5 .z PA.a (Get.fld Filter_.f0) ty24 rfl rfl rfl (λ u5 h8=>?_))
 refine op (OpS.len h8 Tryz.underlying24 rfl rfl rfl (V.at .z) ?_)
 refine op (OpS.fbox (o3:=27) h8 (.s .z) PA.z Qga rfl rfl rfl rfl ?_)
 refine op (OpS.loadBi h8 (.s .z) PA.a (Get.fld Sensor_.f14) ty3 rfl rfl rfl ?_)
 refine gb rfl (gk rfl (gm rfl ?_))
 refine RunL.caseb hF (λ e6 hF=>?_) (λ e6 hF=>?_)
 ·refine gp rfl (gp rfl (gp rfl (gk rfl (gm rfl (gp rfl (gp rfl (gp rfl (gk rfl (nil (Run.slim [(3,u2),(25,.bool true)] ⟨rfl,rfl,trivial⟩ ?_))))))))))
  exact hj1 (true) _ _ ⟨rfl,(h8.facts .nil).picks (.cons .z .nil)⟩ hF
 refine op (OpS.fbox (o3:=1) h8 .z PA.z Qix rfl rfl rfl rfl ?_)
 refine op (OpS.loadBi h8 .z PA.a (Get.fld Filter_.f1) ty3 rfl rfl rfl ?_)
 refine gb rfl (gk rfl (gm rfl ?_))
 refine RunL.caseb hF (λ e7 hF=>?_) (λ e7 hF=>?_)
 ·refine gp rfl (gp rfl (gp rfl (gk rfl (nil (Run.slim [(3,u2),(25,.bool true)] ⟨rfl,rfl,trivial⟩ ?_)))))
  exact hj1 (true) _ _ ⟨rfl,(h8.facts .nil).picks (.cons .z .nil)⟩ hF
 refine op (OpS.fbox (o3:=1) h8 .z PA.z Qix rfl rfl rfl rfl ?_)
 refine op (OpS.loadBi h8 .z PA.a (Get.fld Filter_.f1) ty3 rfl rfl rfl ?_)
 refine gb rfl (gk rfl (nil (Run.slim [(3,u2),(25,.bool (decide (a1.Missing>3)))] ⟨rfl,rfl,trivial⟩ ?_)))
 exact hj1 (decide (a1.Missing>3)) _ _ ⟨rfl,(h8.facts .nil).picks (.cons .z .nil)⟩ hF
end Lift
