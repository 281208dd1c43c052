import Derived.Test.YtahlmfpllhmjoaaGreatDoorTopHealthyWalksB
set_option linter.unusedVariables false
set_option linter.unusedSimpArgs false
namespace Lift
open Go Go.Proofs
open RunL (op sr nil gm ga gb gp gk dp du)
abbrev GqC:Bool×Atom:=(false,.ptr (Rep.arr 6 (Rep.int .u8)) (.pointer (some ⟨0,0,none⟩)) ([0,2,4,7,9,11]))
set_option maxHeartbeats 8000000 in set_option maxRecDepth 20000 in
theorem monitor_Monitor_step_ok {fuel:Nat} {a0:monitor_Monitor} {a1:Int} {a2:Sample_} {y:(List Change_)×Int×monitor_Monitor} (hF:monitor_Monitor_step fuel a0 a1 a2=some y) {w:World} {v0 v0_0 v0_1 v2:Value} :
  Spec Tryz.prog 81 [v0,.int .i64 a1,v2].toArray w [(false,.val Sample_.rep v2 a2)] [(false,.box 184 (monitor_Monitor.repW v0_0 v0_1) v0 a0),(false,.slice 188 Filter_.rep v0_0 a0.filters),(false,.slice 49 (Rep.int .u16) v0_1 a0.states)] (λ v Γr Ωr Ωo=>∃ u0 w0_0 w0_1:Value,v=.tuple #[u0,.int .u8 y.2.1]∧Γr=[(true,.val (Rep.slice Change_.rep) u0 y.1)]∧Ωr=[]∧Ωo=[(false,.box 184 (monitor_Monitor.repW w0_0 w0_1) v0 y.2.2),(false,(.slice 188 Filter_.rep w0_0 y.2.2.filters)),(false,(.slice 49 (Rep.int .u16) w0_1 y.2.2.states))]):=by
 refine Spec.of (L:=[(0,v0),(1,.int .i64 a1),(2,v2)]) Tryz.func81 rfl ⟨rfl,rfl,rfl,trivial⟩ rfl (λ e h=>?_)
 unfold monitor_Monitor_step at hF
 refine sr (op (OpS.boxF h rfl rfl rfl (V.at .z) (λ u1 w1 h1=>?_)))
 refine ga rfl (ga rfl (nil (sr (gm rfl (op (OpS.nchk h1 (.s .z) rfl rfl rfl ?_))))))
 refine op (OpS.fbox (o3:=0) h1 (.s .z) PA.z fa184_0 rfl rfl rfl rfl ?_)
 refine op (OpS.loadB (fr:=(Rep.slice Sensor_.rep)) h1 (.s .z) PA.a (GetS.ok (GetS.iso _ (GetS.here GetS.id))) (Ty.like ty27 (by rfl) (by rfl)) rfl rfl rfl (λ u2 h2=>?_))
 refine gm rfl ?_
 obtain ⟨x1,e1,hF⟩:=bindP_use hF
 refine op (OpS.iptr h2 Tryz.underlying27 ty74 rfl rfl rfl rfl (V.at .z) e1 (λ u3 h3=>?_))
 refine op (OpS.load h3 ty74 rfl rfl rfl .z (λ u4 h4=>?_))
 refine op (OpS.alloc h4 ti74 Sensor_.zr rfl rfl (λ u5 w2 h5=>?_))
 have h6:=(h5.pick .z).weak
 refine op (OpS.storeB (f':=false) h6 .z PA.z Put.id ty74 rfl rfl rfl (V.at .z) (.inr rfl) (λ w3 h7=>?_))
 refine nil (sr (ga rfl (nil (Run.seq (sr (op (OpS.fbox (o3:=6) h7 .z PA.z fa74_5 rfl rfl rfl rfl ?_)))))))
 refine op (OpS.loadBb h7 .z PA.a (Get.fld Sensor_.f5) ty4 rfl rfl rfl ?_)
 refine nil ?_
 refine Run.ite rfl hF (λ e2 hF=>?_) (λ e2 hF=>?_)
 ·refine Run.seq (sr (op (OpS.fbox (o3:=1) h7 (.s .z) PA.z fa93_1 rfl rfl rfl rfl ?_)))
  refine op (OpS.loadBb h7 (.s .z) PA.a (Get.fld Sample_.f1) ty4 rfl rfl rfl ?_)
  refine nil ?_
  refine Run.join (σ:=((List Change_)×monitor_Monitor)) (λ s_ L_ w_=>∃ u0_:Value,L_=[(9,u0_)]∧St e w_ [(true,.val (Rep.slice Change_.rep) u0_ s_.1)] [(false,.box 184 (monitor_Monitor.repW v0_0 v0_1) v0 s_.2),(false,.slice 188 Filter_.rep v0_0 s_.2.filters),(false,.slice 49 (Rep.int .u16) v0_1 s_.2.states)]) hF (λ s1 _ w4 hI hF=>?_) (λ j1 hj1 hF=>?_)
  ·obtain ⟨u6,rfl,h8⟩:=hI
   refine sr (gm rfl (ga rfl (ga rfl (nil (Run.retP rfl (.tmp rfl (.tmp rfl .nil)) ?_)))))
   cases hF
   exact Post.mk' ⟨u6,v0_0,v0_1,rfl,rfl,rfl,rfl⟩ (h8.picks (.cons .z (.cons .z (.cons .z .nil)))) (.val (V.at .z) .nil)
  refine Run.ite rfl hF (λ e3 hF=>?_) (λ e3 hF=>?_)
  ·refine Run.slim [(8,u5),(5,u1),(0,v0),(1,.int .i64 a1)] ⟨rfl,rfl,rfl,rfl,trivial⟩ ?_
   have h9:=h7.picks (.cons .z (.cons .z (.cons .z (.cons (.s .z) (.cons .z .nil)))))
   obtain ⟨x2,e4,hF⟩:=bindP_use hF
   obtain ⟨y1,e5,hF⟩:=bindP_use hF
   obtain ⟨d1,e6,hF⟩:=letP_use hF
   refine Run.drawV (Ωs:=[(false,.slice 188 Filter_.rep v0_0 a0.filters)]) [.k 26 v0,.kr 27 v0 [2],.kr 28 (padd v0 3) [2],.kr 29 v0_1 [2],.k 30 (.int .i64 a1),.fr 31 (λ u_=>[(false,.val Sensor_.rep u_ x1)]) [0],.k 32 v0,.kr 33 v0 [2],.kr 34 (padd v0 3) [2],.kr 35 v0_1 [2],.k 36 (.int .i64 a1),⟨some 37,some ((padd (sp v0_1) ((a1:Int).toNat*(Rep.int .u16).n))),λ _=>[],λ ds_ u_=>[],[],[(3,[21,11])],none⟩,⟨some 38,some (.int .u16 x2),λ _=>[],λ ds_ u_=>[],[],[(3,[21,12])],none⟩,.kr 39 (padd u1 3) [1],.kr 40 (.int .u16 a2.States) [1],.f 41 (λ u_=>[(true,.eqv u_ (.tuple #[.int .u16 y1.1,(tcomp u_ 1),.int .i64 y1.2.2])),(true,.val (Rep.slice Change_.rep) (tcomp u_ 1) y1.2.1)]),.f 25 (λ u_=>[(true,.eqv u_ (.tuple #[.int .u16 y1.1,(tcomp u_ 1),.int .i64 y1.2.2])),(true,.val (Rep.slice Change_.rep) (tcomp u_ 1) y1.2.1)]),.k 42 (.int .u16 y1.1),.f 43 (λ u_=>[(true,.val (Rep.slice Change_.rep) u_ y1.2.1)]),.k 44 (.int .i64 y1.2.2),⟨some 45,some ((padd (sp v0_1) ((a1:Int).toNat*(Rep.int .u16).n))),λ _=>[],λ ds_ u_=>[],[],[(3,[21,20])],none⟩,⟨none,some undef,λ _=>[],λ ds_ u_=>[(false,.slice 49 (Rep.int .u16) v0_1 d1)],[3],[],none⟩,.f 9 (λ u_=>[(true,.val (Rep.slice Change_.rep) u_ y1.2.1)])] [[],[0],[1],[2],[],[],[],[6],[7],[8],[],[9,10],[11],[],[13],[5,12,14],[15],[16],[16],[16],[3,4],[20,17],[18]] [[(false,.box 74 Sensor_.rep u5 x1)],[(false,.box 93 Sample_.rep u1 a2)],[(false,.box 184 (monitor_Monitor.repW v0_0 v0_1) v0 a0)],[(false,.slice 49 (Rep.int .u16) v0_1 a0.states)]] [0,1,2,4,5,6,7,8,9,10,11,12,13,14,15,16,17,18,19,20,21,22,23,24,25,26] Try_mixed rfl rfl rfl h9 (.cons ?_ (.cons ?_ (.cons ?_ (.cons ?_ (.cons ?_ (.cons ?_ (.cons ?_ (.cons ?_ (.cons ?_ (.cons ?_ (.cons ?_ (.cons ?_ (.cons ?_ (.cons ?_ (.cons ?_ (.cons ?_ (.cons ?_ (.cons ?_ (.cons ?_ (.cons ?_ (.cons ?_ (.cons ?_ (.cons ?_ .nil))))))))))))))))))))))) (λ q1 w hq1 h=>?_)
   ·intro q1 w Γx Ωx h
    refine OpS.mv rfl rfl rfl ?_
    exact du h
   ·intro q1 w Γx Ωx h
    refine OpS.nchk h .z rfl rfl rfl ?_
    exact du h
   ·intro q1 w Γx Ωx h
    refine OpS.fbox (o3:=3) h .z PA.z fa184_3 rfl rfl rfl rfl ?_
    exact du h
   ·intro q1 w Γx Ωx h
    refine OpS.loadR h .z PA.a (GetS.ok (GetS.iso _ (GetS.there (GetS.there (GetS.there (GetS.here GetS.id)))))) ty60 rfl rfl rfl rfl rfl ?_
    exact du h
   ·intro q1 w Γx Ωx h
    refine OpS.mv rfl rfl rfl ?_
    exact du h
   ·intro q1 w Γx Ωx h
    refine OpS.loadB h .z PA.z Get.id ty74 rfl rfl rfl (λ u h15=>?_)
    exact ⟨u,rfl,trivial,h15⟩
   ·intro q1 w Γx Ωx h
    refine OpS.mv rfl rfl rfl ?_
    exact du h
   ·intro q1 w Γx Ωx h
    refine OpS.nchk h .z rfl rfl rfl ?_
    exact du h
   ·intro q1 w Γx Ωx h
    refine OpS.fbox (o3:=3) h .z PA.z fa184_3 rfl rfl rfl rfl ?_
    exact du h
   ·intro q1 w Γx Ωx h
    refine OpS.loadR h .z PA.a (GetS.ok (GetS.iso _ (GetS.there (GetS.there (GetS.there (GetS.here GetS.id)))))) ty60 rfl rfl rfl rfl rfl ?_
    exact du h
   ·intro q1 w Γx Ωx h
    refine OpS.mv rfl rfl rfl ?_
    exact du h
   ·intro q1 w Γx Ωx h
    refine OpS.iown h .z Tryz.underlying60 ty49 rfl rfl rfl rfl e4 ?_
    exact du h
   ·intro q1 w Γx Ωx h
    refine OpS.loadOi h .z (idx_ne e4) PA.a (Get.arr e4) ty49 rfl rfl rfl ?_
    exact du h
   ·intro q1 w Γx Ωx h
    refine OpS.fbox (o3:=3) h .z PA.z fa93_3 rfl rfl rfl rfl ?_
    exact du h
   ·intro q1 w Γx Ωx h
    refine OpS.loadBi h .z PA.a (Get.fld Sample_.f3) ty49 rfl rfl rfl ?_
    exact du h
   ·intro q1 w Γx Ωx h
    refine OpS.callP h Tryz.func150 rfl rfl rfl rfl (vs:=[(q1 5),.int .u16 x2,.int .u16 a2.States]) rfl (discrete_Step_ok e5) (.cons (f:=false) (V.at .z) .nil) ?_
    rintro _ w7 _ _ _ ⟨u8,rfl,rfl,rfl,rfl⟩ h16
    have h17:=h16 rfl rfl
    simp only [ca,na] at h17
    have h18:=h17.freeze
    exact ⟨_,rfl,trivial,St.eqv rfl h18⟩
   ·intro q1 w Γx Ωx h
    refine OpS.mv rfl rfl rfl ?_
    exact ⟨_,rfl,trivial,((h.dup (.s .z)).dup (.s .z))⟩
   ·intro q1 w Γx Ωx h
    refine OpS.extT h .z rfl rfl rfl rfl ?_
    exact du h
   ·intro q1 w Γx Ωx h
    refine OpS.extT h .z rfl rfl rfl rfl ?_
    exact ⟨_,rfl,trivial,(h.dup (.s .z))⟩
   ·intro q1 w Γx Ωx h
    refine OpS.extT h .z rfl rfl rfl rfl ?_
    exact du h
   ·intro q1 w Γx Ωx h
    refine OpS.iown h .z Tryz.underlying60 ty49 rfl rfl rfl rfl e4 ?_
    exact du h
   ·intro q1 w Γx Ωx h
    refine OpS.storeO (f':=true) h .z (idx_ne e4) PA.a (Put.of (Put.arr e4) e6) ty49 rfl rfl rfl V.int (.inr rfl) (λ w8 h19=>?_)
    exact ⟨undef,trivial,trivial,h19⟩
   ·intro q1 w Γx Ωx h
    refine OpS.as rfl rfl rfl ?_
    exact ⟨_,rfl,trivial,(h.dup .z)⟩
   have h20:=h
   refine nil (Run.slim [(9,(q1 22))] ⟨rfl,trivial⟩ ?_)
   have h21:=St.boxJ (r':=(monitor_Monitor.repW v0_0 v0_1)) (x':={ a0 with states:=d1 }) (h20.pick (.s (.s .z))) (λ _ _ hs_=>(Jn.iso _ (Jn.prod Jn.refl (Jn.prod Jn.refl (Jn.prod Jn.same (Jn.prod Jn.same Jn.refl))))))
   have h22:=St.boxJ (r':=(monitor_Monitor.repW v0_0 v0_1)) (x':={ { { a0 with states:=d1 } with filters:=a0.filters } with states:=d1 }) (h21.pick .z) (λ _ _ hs_=>(Jn.iso _ (Jn.prod Jn.refl (Jn.prod Jn.refl (Jn.prod Jn.same (Jn.prod Jn.same Jn.refl))))))
   refine Run.slim [(9,(q1 22))] ⟨rfl,trivial⟩ ?_
   exact hj1 (y1.2.1,{ { { a0 with states:=d1 } with filters:=a0.filters } with states:=d1 }) _ _ ⟨(q1 22),rfl,(h22.facts (.val (V.at (.s (.s (.s (.s (.s (.s .z))))))) .nil)).picks (.cons .z (.cons (.s (.s (.s .z))) (.cons (.s (.s .z)) .nil)))⟩ hF
  refine Run.skip (Run.slim [(9,.slice none 0 0)] ⟨rfl,trivial⟩ ?_)
  exact hj1 ([],a0) _ _ ⟨.slice none 0 0,rfl,(h7.facts (.val V.nil .nil)).picks (.cons (.s (.s .z)) (.cons (.s (.s .z)) (.cons (.s (.s .z)) .nil)))⟩ hF
 refine Run.skip (Run.seq ?_)
 obtain ⟨x3,e7,hF⟩:=bindP_use hF
 obtain ⟨y2,e8,hF⟩:=bindP_use hF
 obtain ⟨d2,e9,hF⟩:=letP_use hF
 refine Run.drawV (Ωs:=[(false,.slice 49 (Rep.int .u16) v0_1 a0.states)]) [.k 48 v0,.kr 49 v0 [2],.kr 50 (padd v0 2) [2],.kr 51 v0_0 [2],.k 52 (.int .i64 a1),.fr 53 (λ u_=>[(false,.val Sensor_.rep u_ x1)]) [0],.k 54 v0,.kr 55 v0 [2],.kr 56 (padd v0 2) [2],.kr 57 v0_0 [2],.k 58 (.int .i64 a1),⟨some 59,some ((padd (sp v0_0) ((a1:Int).toNat*Filter_.rep.n))),λ _=>[],λ ds_ u_=>[],[],[(3,[22,11])],none⟩,⟨some 60,none,λ u_=>[(false,.val Filter_.rep u_ x3)],λ ds_ u_=>[],[],[(3,[22,12])],none⟩,.kr 61 (padd u1 2) [1],.kr 62 (.int .u8 a2.Raw) [1],.kr 63 (padd u1 1) [1],.kr 64 (.bool a2.OK) [1],.f 65 (λ u_=>[(true,.eqv u_ (.tuple #[(tcomp u_ 0),.int .i64 y2.2])),(true,.val Filter_.rep (tcomp u_ 0) y2.1)]),.f 47 (λ u_=>[(true,.eqv u_ (.tuple #[(tcomp u_ 0),.int .i64 y2.2])),(true,.val Filter_.rep (tcomp u_ 0) y2.1)]),.f 66 (λ u_=>[(true,.val Filter_.rep u_ y2.1)]),.k 67 (.int .i64 y2.2),⟨some 68,some ((padd (sp v0_0) ((a1:Int).toNat*Filter_.rep.n))),λ _=>[],λ ds_ u_=>[],[],[(3,[22,21])],none⟩,⟨none,some undef,λ _=>[],λ ds_ u_=>[(false,.slice 188 Filter_.rep v0_0 d2)],[3],[],none⟩] [[],[0],[1],[2],[],[],[],[6],[7],[8],[],[9,10],[11],[],[13],[],[15],[5,12,14,16],[17],[18],[18],[3,4],[21,19]] [[(false,.box 74 Sensor_.rep u5 x1)],[(false,.box 93 Sample_.rep u1 a2)],[(false,.box 184 (monitor_Monitor.repW v0_0 v0_1) v0 a0)],[(false,.slice 188 Filter_.rep v0_0 a0.filters)]] [0,1,2,4,5,6,7,8,9,10,11,12,13,14,15,16,17,18,19,20,21,22,23,24,25,26] Try_mixed rfl rfl rfl h7 (.cons ?_ (.cons ?_ (.cons ?_ (.cons ?_ (.cons ?_ (.cons ?_ (.cons ?_ (.cons ?_ (.cons ?_ (.cons ?_ (.cons ?_ (.cons ?_ (.cons ?_ (.cons ?_ (.cons ?_ (.cons ?_ (.cons ?_ (.cons ?_ (.cons ?_ (.cons ?_ (.cons ?_ (.cons ?_ (.cons ?_ .nil))))))))))))))))))))))) (λ q2 w hq2 h=>?_)
 ·intro q2 w Γx Ωx h
  refine OpS.mv rfl rfl rfl ?_
  exact du h
 ·intro q2 w Γx Ωx h
  refine OpS.nchk h .z rfl rfl rfl ?_
  exact du h
 ·intro q2 w Γx Ωx h
  refine OpS.fbox (o3:=2) h .z PA.z fa184_2 rfl rfl rfl rfl ?_
  exact du h
 ·intro q2 w Γx Ωx h
  refine OpS.loadR h .z PA.a (GetS.ok (GetS.iso _ (GetS.there (GetS.there (GetS.here GetS.id))))) ty182 rfl rfl rfl rfl rfl ?_
  exact du h
 ·intro q2 w Γx Ωx h
  refine OpS.mv rfl rfl rfl ?_
  exact du h
 ·intro q2 w Γx Ωx h
  refine OpS.loadB h .z PA.z Get.id ty74 rfl rfl rfl (λ u h28=>?_)
  exact ⟨u,rfl,trivial,h28⟩
 ·intro q2 w Γx Ωx h
  refine OpS.mv rfl rfl rfl ?_
  exact du h
 ·intro q2 w Γx Ωx h
  refine OpS.nchk h .z rfl rfl rfl ?_
  exact du h
 ·intro q2 w Γx Ωx h
  refine OpS.fbox (o3:=2) h .z PA.z fa184_2 rfl rfl rfl rfl ?_
  exact du h
 ·intro q2 w Γx Ωx h
  refine OpS.loadR h .z PA.a (GetS.ok (GetS.iso _ (GetS.there (GetS.there (GetS.here GetS.id))))) ty182 rfl rfl rfl rfl rfl ?_
  exact du h
 ·intro q2 w Γx Ωx h
  refine OpS.mv rfl rfl rfl ?_
  exact du h
 ·intro q2 w Γx Ωx h
  refine OpS.iown h .z Tryz.underlying182 ty188 rfl rfl rfl rfl e7 ?_
  exact du h
 ·intro q2 w Γx Ωx h
  refine OpS.loadO h .z (idx_ne e7) PA.a (Get.arr e7) ty188 rfl rfl rfl (λ u h29=>?_)
  exact ⟨u,rfl,trivial,h29⟩
 ·intro q2 w Γx Ωx h
  refine OpS.fbox (o3:=2) h .z PA.z fa93_2 rfl rfl rfl rfl ?_
  exact du h
 ·intro q2 w Γx Ωx h
  refine OpS.loadBi h .z PA.a (Get.fld Sample_.f2) ty5 rfl rfl rfl ?_
  exact du h
 ·intro q2 w Γx Ωx h
  refine OpS.fbox (o3:=1) h .z PA.z fa93_1 rfl rfl rfl rfl ?_
  exact du h
 ·intro q2 w Γx Ωx h
  refine OpS.loadBb h .z PA.a (Get.fld Sample_.f1) ty4 rfl rfl rfl ?_
  exact du h
 ·intro q2 w Γx Ωx h
  refine OpS.callP h Tryz.func151 rfl rfl rfl rfl (vs:=[(q2 5),(q2 12),.int .u8 a2.Raw,.bool a2.OK]) rfl (sampling_Step_ok e8) (.cons (f:=false) (V.at .z) (.cons (f:=false) (V.at (.s .z)) .nil)) ?_
  rintro _ w11 _ _ _ ⟨u10,rfl,rfl,rfl,rfl⟩ h30
  have h31:=h30 rfl rfl
  simp only [ca,na] at h31
  exact ⟨_,rfl,trivial,St.eqv rfl h31⟩
 ·intro q2 w Γx Ωx h
  refine OpS.mv rfl rfl rfl ?_
  exact ⟨_,rfl,trivial,((h.dup (.s .z)).dup (.s .z))⟩
 ·intro q2 w Γx Ωx h
  refine OpS.extT h .z rfl rfl rfl rfl ?_
  exact ⟨_,rfl,trivial,(h.dup (.s .z))⟩
 ·intro q2 w Γx Ωx h
  refine OpS.extT h .z rfl rfl rfl rfl ?_
  exact du h
 ·intro q2 w Γx Ωx h
  refine OpS.iown h .z Tryz.underlying182 ty188 rfl rfl rfl rfl e7 ?_
  exact du h
 ·intro q2 w Γx Ωx h
  refine OpS.storeO (f':=false) h .z (idx_ne e7) PA.a (Put.of (Put.arr e7) e9) ty188 rfl rfl rfl (V.weak (V.at .z)) (.inr rfl) (λ w12 h32=>?_)
  exact ⟨undef,trivial,trivial,h32⟩
 have h33:=h
 refine nil (Run.slim [(8,u5),(0,v0),(1,.int .i64 a1)] ⟨rfl,rfl,rfl,trivial⟩ ?_)
 refine Run.seq ?_
 have h34:=h33.picks (.cons .z (.cons (.s .z) (.cons (.s .z) (.cons .z (.cons .z .nil)))))
 obtain ⟨x4,e10,hF⟩:=bindP_use hF
 obtain ⟨y3,e11,hF⟩:=bindP_use hF
 refine Run.drawV (Ωs:=[(false,.box 93 Sample_.rep u1 a2),(false,.slice 49 (Rep.int .u16) v0_1 a0.states)]) [.fr 70 (λ u_=>[(false,.val Sensor_.rep u_ x1)]) [0],.k 71 v0,.kr 72 v0 [1],.kr 73 (padd v0 2) [1],.kr 74 v0_0 [1],.k 75 (.int .i64 a1),.kr 76 (padd (sp v0_0) ((a1:Int).toNat*Filter_.rep.n)) [2],.fr 77 (λ u_=>[(false,.val Filter_.rep u_ x4)]) [2],.k 78 (.tuple #[.int .u8 y3.1,.bool y3.2]),.k 69 (.tuple #[.int .u8 y3.1,.bool y3.2]),.k 79 (.int .u8 y3.1),.k 80 (.bool y3.2),.k 10 (.int .u8 y3.1)] [[],[],[1],[2],[3],[],[4,5],[6],[0,7],[8],[9],[9],[10]] [[(false,.box 74 Sensor_.rep u5 x1)],[(false,.box 184 (monitor_Monitor.repW v0_0 v0_1) v0 a0)],[(false,.slice 188 Filter_.rep v0_0 d2)]] [0,1,2,3,4,5,6,7,8,9,10,11,12,13,14,15] Try_mixed rfl rfl rfl h34 (.cons ?_ (.cons ?_ (.cons ?_ (.cons ?_ (.cons ?_ (.cons ?_ (.cons ?_ (.cons ?_ (.cons ?_ (.cons ?_ (.cons ?_ (.cons ?_ (.cons ?_ .nil))))))))))))) (λ q3 w hq3 h=>?_)
 ·intro q3 w Γx Ωx h
  refine OpS.loadB h .z PA.z Get.id ty74 rfl rfl rfl (λ u h39=>?_)
  exact ⟨u,rfl,trivial,h39⟩
 ·intro q3 w Γx Ωx h
  refine OpS.mv rfl rfl rfl ?_
  exact du h
 ·intro q3 w Γx Ωx h
  refine OpS.nchk h .z rfl rfl rfl ?_
  exact du h
 ·intro q3 w Γx Ωx h
  refine OpS.fbox (o3:=2) h .z PA.z fa184_2 rfl rfl rfl rfl ?_
  exact du h
 ·intro q3 w Γx Ωx h
  refine OpS.loadR h .z PA.a (GetS.ok (GetS.iso _ (GetS.there (GetS.there (GetS.here GetS.id))))) ty182 rfl rfl rfl rfl rfl ?_
  exact du h
 ·intro q3 w Γx Ωx h
  refine OpS.mv rfl rfl rfl ?_
  exact du h
 ·intro q3 w Γx Ωx h
  refine OpS.iown h .z Tryz.underlying182 ty188 rfl rfl rfl rfl e10 ?_
  exact du h
 ·intro q3 w Γx Ωx h
  refine OpS.loadO h .z (idx_ne e10) PA.a (Get.arr e10) ty188 rfl rfl rfl (λ u h40=>?_)
  exact ⟨u,rfl,trivial,h40⟩
 ·intro q3 w Γx Ωx h
  refine OpS.callP h Tryz.func100 rfl rfl rfl rfl (vs:=[(q3 0),(q3 7)]) rfl (sampling_Reading_ok e11) (.cons (f:=false) (V.at .z) (.cons (f:=false) (V.at (.s .z)) .nil)) ?_
  rintro _ w14 _ _ _ ⟨rfl,rfl,rfl,rfl⟩ h41
  have h42:=h41 rfl rfl
  simp only [ca,na] at h42
  exact ⟨undef,rfl,trivial,h42⟩
 ·intro q3 w Γx Ωx h
  refine OpS.mv rfl rfl rfl ?_
  exact du h
 ·intro q3 w Γx Ωx h
  refine OpS.ext rfl rfl rfl rfl ?_
  exact du h
 ·intro q3 w Γx Ωx h
  refine OpS.ext rfl rfl rfl rfl ?_
  exact du h
 ·intro q3 w Γx Ωx h
  refine OpS.as rfl rfl rfl ?_
  exact du h
 have h43:=h
 refine ga rfl (nil (Run.seq (sr (gm rfl (op (OpS.not rfl rfl rfl ?_))))))
 refine nil ?_
 refine Run.ite rfl hF (λ e12 hF=>?_) (λ e12 hF=>?_)
 ·refine sr (ga rfl (ga rfl (nil ?_)))
  have h44:=St.boxJ (r':=(monitor_Monitor.repW v0_0 v0_1)) (x':={ { a0 with filters:=d2 } with states:=a0.states }) (h43.pick (.s .z)) (λ _ _ hs_=>(Jn.iso _ (Jn.prod Jn.refl (Jn.prod Jn.refl (Jn.prod Jn.same (Jn.prod Jn.same Jn.refl))))))
  refine Run.retP rfl (.tmp rfl (.tmp rfl .nil)) ?_
  cases hF
  exact Post.mk' ⟨.slice none 0 0,v0_0,v0_1,rfl,rfl,rfl,rfl⟩ (h44.picks (.cons .z (.cons (.s .z) (.cons (.s (.s .z)) .nil)))) (.val V.nil .nil)
 refine Run.skip (Run.seq ?_)
 have h45:=h43.picks (.cons .z (.cons .z (.cons (.s (.s .z)) (.cons .z (.cons .z .nil)))))
 obtain ⟨x5,e13,hF⟩:=bindP_use hF
 obtain ⟨y4,e14,hF⟩:=bindP_use hF
 refine Run.drawV (Ωs:=[(false,.slice 188 Filter_.rep v0_0 d2),(false,.box 93 Sample_.rep u1 a2)]) [.fr 84 (λ u_=>[(false,.val Sensor_.rep u_ x1)]) [0],.k 85 v0,.kr 86 v0 [1],.kr 87 (padd v0 3) [1],.kr 88 v0_1 [1],.k 89 (.int .i64 a1),.kr 90 (padd (sp v0_1) ((a1:Int).toNat*(Rep.int .u16).n)) [2],.kr 91 (.int .u16 x5) [2],.k 92 (.int .u8 (IntKind.u8.wrap x5)),.k 93 (.int .u8 y3.1),.f 94 (λ u_=>[(true,.eqv u_ (.tuple #[.int .u8 y4.1,(tcomp u_ 1),.int .i64 y4.2.2])),(true,.val (Rep.slice Change_.rep) (tcomp u_ 1) y4.2.1)]),.f 83 (λ u_=>[(true,.eqv u_ (.tuple #[.int .u8 y4.1,(tcomp u_ 1),.int .i64 y4.2.2])),(true,.val (Rep.slice Change_.rep) (tcomp u_ 1) y4.2.1)]),.k 95 (.int .u8 y4.1),.f 96 (λ u_=>[(true,.val (Rep.slice Change_.rep) u_ y4.2.1)]),.k 97 (.int .i64 y4.2.2),.k 12 (.int .u8 y4.1),.f 9 (λ u_=>[(true,.val (Rep.slice Change_.rep) u_ y4.2.1)])] [[],[],[1],[2],[3],[],[4,5],[6],[7],[],[0,8,9],[10],[11],[11],[11],[12],[13]] [[(false,.box 74 Sensor_.rep u5 x1)],[(false,.box 184 (monitor_Monitor.repW v0_0 v0_1) v0 a0)],[(false,.slice 49 (Rep.int .u16) v0_1 a0.states)]] [0,1,2,3,4,5,6,7,8,9,10,11,12,13,14,15,16,17,18,19] Try_mixed rfl rfl rfl h45 (.cons ?_ (.cons ?_ (.cons ?_ (.cons ?_ (.cons ?_ (.cons ?_ (.cons ?_ (.cons ?_ (.cons ?_ (.cons ?_ (.cons ?_ (.cons ?_ (.cons ?_ (.cons ?_ (.cons ?_ (.cons ?_ (.cons ?_ .nil))))))))))))))))) (λ q4 w hq4 h=>?_)
 ·intro q4 w Γx Ωx h
  refine OpS.loadB h .z PA.z Get.id ty74 rfl rfl rfl (λ u h50=>?_)
  exact ⟨u,rfl,trivial,h50⟩
 ·intro q4 w Γx Ωx h
  refine OpS.mv rfl rfl rfl ?_
  exact du h
 ·intro q4 w Γx Ωx h
  refine OpS.nchk h .z rfl rfl rfl ?_
  exact du h
 ·intro q4 w Γx Ωx h
  refine OpS.fbox (o3:=3) h .z PA.z fa184_3 rfl rfl rfl rfl ?_
  exact du h
 ·intro q4 w Γx Ωx h
  refine OpS.loadR h .z PA.a (GetS.ok (GetS.iso _ (GetS.there (GetS.there (GetS.there (GetS.here GetS.id)))))) ty60 rfl rfl rfl rfl rfl ?_
  exact du h
 ·intro q4 w Γx Ωx h
  refine OpS.mv rfl rfl rfl ?_
  exact du h
 ·intro q4 w Γx Ωx h
  refine OpS.iown h .z Tryz.underlying60 ty49 rfl rfl rfl rfl e13 ?_
  exact du h
 ·intro q4 w Γx Ωx h
  refine OpS.loadOi h .z (idx_ne e13) PA.a (Get.arr e13) ty49 rfl rfl rfl ?_
  exact du h
 ·intro q4 w Γx Ωx h
  refine OpS.conv Tryz.underlying49 Tryz.underlying5 rfl rfl rfl ?_
  exact du h
 ·intro q4 w Γx Ωx h
  refine OpS.mv rfl rfl rfl ?_
  exact du h
 ·intro q4 w Γx Ωx h
  refine OpS.callP h Tryz.func152 rfl rfl rfl rfl (vs:=[(q4 0),.int .u8 (IntKind.u8.wrap x5),.int .u8 y3.1]) rfl (threshold_Step_ok e14) (.cons (f:=false) (V.at .z) .nil) ?_
  rintro _ w16 _ _ _ ⟨u12,rfl,rfl,rfl,rfl⟩ h51
  have h52:=h51 rfl rfl
  simp only [ca,na] at h52
  have h53:=h52.freeze
  exact ⟨_,rfl,trivial,St.eqv rfl h53⟩
 ·intro q4 w Γx Ωx h
  refine OpS.mv rfl rfl rfl ?_
  exact ⟨_,rfl,trivial,((h.dup (.s .z)).dup (.s .z))⟩
 ·intro q4 w Γx Ωx h
  refine OpS.extT h .z rfl rfl rfl rfl ?_
  exact du h
 ·intro q4 w Γx Ωx h
  refine OpS.extT h .z rfl rfl rfl rfl ?_
  exact ⟨_,rfl,trivial,(h.dup (.s .z))⟩
 ·intro q4 w Γx Ωx h
  refine OpS.extT h .z rfl rfl rfl rfl ?_
  exact du h
 ·intro q4 w Γx Ωx h
  refine OpS.as rfl rfl rfl ?_
  exact du h
 ·intro q4 w Γx Ωx h
  refine OpS.as rfl rfl rfl ?_
  exact ⟨_,rfl,trivial,(h.dup .z)⟩
 have h54:=h
 refine ga rfl (nil (Run.slim [(12,.int .u8 y4.1),(9,(q4 16)),(10,.int .u8 y3.1),(0,v0),(1,.int .i64 a1)] ⟨rfl,rfl,rfl,rfl,rfl,trivial⟩ ?_))
 refine sr (gm rfl (op (OpS.nchk h54 (.s .z) rfl rfl rfl ?_)))
 refine op (OpS.fbox (o3:=3) h54 (.s .z) PA.z fa184_3 rfl rfl rfl rfl ?_)
 refine op (OpS.loadR h54 (.s .z) PA.a (GetS.ok (GetS.iso _ (GetS.there (GetS.there (GetS.there (GetS.here GetS.id)))))) ty60 rfl rfl rfl rfl rfl ?_)
 refine gm rfl (gm rfl (op (OpS.conv Tryz.underlying5 Tryz.underlying49 rfl rfl rfl ?_)))
 obtain ⟨x6,e15,hF⟩:=bindP_use hF
 refine op (OpS.iown h54 (.s (.s .z)) Tryz.underlying60 ty49 rfl rfl rfl rfl e15 ?_)
 obtain ⟨d3,e16,hF⟩:=letP_use hF
 refine op (OpS.storeO (f':=true) h54 (.s (.s .z)) (idx_ne e15) PA.a (Put.of (Put.arr e15) e16) ty49 rfl rfl rfl V.int (.inr rfl) (λ w17 h55=>?_))
 refine nil (sr (gm rfl (gm rfl (ga rfl (ga rfl (nil ?_))))))
 have h56:=St.boxJ (r':=(monitor_Monitor.repW v0_0 v0_1)) (x':={ { a0 with filters:=d2 } with states:=d3 }) (h55.pick (.s (.s .z))) (λ _ _ hs_=>(Jn.iso _ (Jn.prod Jn.refl (Jn.prod Jn.refl (Jn.prod Jn.same (Jn.prod Jn.same Jn.refl))))))
 refine Run.retP rfl (.tmp rfl (.tmp rfl .nil)) ?_
 cases hF
 exact Post.mk' ⟨(q4 16),v0_0,v0_1,rfl,rfl,rfl,rfl⟩ (h56.picks (.cons .z (.cons (.s (.s .z)) (.cons .z .nil)))) (.val (V.at (.s (.s (.s (.s (.s (.s .z))))))) .nil)
theorem event_State_ok {fuel:Nat} {a0:Int} {a1:Int} {a2:Int} {a3:Bool} {y:Event_×Int} (hF:event_State fuel a0 a1 a2 a3=some y) {w:World} :
  Spec Tryz.prog 153 [.int .u8 a0,.int .u8 a1,.int .i64 a2,.bool a3].toArray w [] [] (λ v Γr Ωr Ωo=>∃ u0:Value,v=.tuple #[u0,.int .i64 y.2]∧Γr=[(true,.val Event_.rep u0 y.1)]∧Ωr=[]∧Ωo=[]):=by
 refine Spec.of (L:=[(0,.int .u8 a0),(1,.int .u8 a1),(2,.int .i64 a2),(3,.bool a3)]) Tryz.func153 rfl ⟨rfl,rfl,rfl,rfl,trivial⟩ rfl (λ e h=>?_)
 unfold event_State at hF
 refine sr (op (OpS.alloc h ti55 Event_.zr rfl rfl (λ u1 w1 h1=>?_)))
 refine ga rfl (nil (Run.seq (sr (gm rfl (gb rfl (gm rfl ?_))))))
 refine RunL.join (σ:=Bool) (λ s_ L_ w_=>L_=[(0,.int .u8 a0),(1,.int .u8 a1),(2,.int .i64 a2),(3,.bool a3),(8,u1),(15,.bool s_)]∧St e w_ [] [(true,.box 55 Event_.rep u1 Event_.z)]) hF (λ s1 _ w2 hI hF=>?_) (λ j1 hj1 hF=>?_)
 ·obtain ⟨rfl,h2⟩:=hI
  refine Run.ite rfl hF (λ e1 hF=>?_) (λ e1 hF=>?_)
  ·refine sr (op (OpS.build (f:=true) (x':=Event_.z) h2 pl55 ti55 Event_.zr rfl rfl rfl .nil (λ u2 h3=>?_)))
   refine op (OpS.storeB (f':=true) h3 .z PA.z Put.id ty55 rfl rfl rfl (V.at .z) (.inl rfl) (λ w3 h4=>?_))
   refine ga rfl (nil ?_)
   obtain ⟨u3,hu1,h5⟩:=res_box h4 .z ty55
   refine Run.retP rfl (.cell rfl hu1 (.tmp rfl .nil)) ?_
   cases hF
   exact Post.mk' ⟨u3,rfl,rfl,rfl,rfl⟩ (h5.picks .nil) (.val (V.at .z) .nil)
  refine Run.skip (sr (gm rfl (gm rfl (gm rfl (op (OpS.not rfl rfl rfl ?_))))))
  refine gm rfl (op (OpS.conv Tryz.underlying3 Tryz.underlying5 rfl rfl rfl ?_))
  refine op (OpS.buildA (f:=true) (r:=(Rep.int .u8)) h2 Tryz.underlying53 ti5 rfl ti53 rfl rfl rfl (.cons rfl V.int (.cons rfl V.int (.cons rfl V.int .nil))) rfl (λ u4 h6=>?_))
  refine op (OpS.build (f:=true) (x':=(⟨0,0,32,a0,a1,111,!a3,[(IntKind.u8.wrap a2),255,255]⟩:Event_)) h6 pl55 ti55 Event_.zr rfl rfl rfl (.cons rfl Event_.f2 rfl V.int (.cons rfl Event_.f3 rfl V.int (.cons rfl Event_.f4 rfl V.int (.cons rfl Event_.f5 rfl V.int (.cons rfl Event_.f6 rfl V.bool (.cons rfl Event_.f7 rfl (V.at .z) .nil)))))) (λ u5 h7=>?_))
  refine op (OpS.storeB (f':=true) h7 .z PA.z Put.id ty55 rfl rfl rfl (V.at .z) (.inl rfl) (λ w4 h8=>?_))
  refine ga rfl (nil ?_)
  obtain ⟨u6,hu2,h9⟩:=res_box h8 .z ty55
  refine Run.retP rfl (.cell rfl hu2 (.tmp rfl .nil)) ?_
  cases hF
  exact Post.mk' ⟨u6,rfl,rfl,rfl,rfl⟩ (h9.picks .nil) (.val (V.at .z) .nil)
 refine RunL.caseb hF (λ e2 hF=>?_) (λ e2 hF=>?_)
 ·refine gp rfl (gp rfl (gk rfl (nil (Run.slim [(0,.int .u8 a0),(1,.int .u8 a1),(2,.int .i64 a2),(3,.bool a3),(8,u1),(15,.bool true)] ⟨rfl,rfl,rfl,rfl,rfl,rfl,trivial⟩ ?_))))
  exact hj1 (true) _ _ ⟨rfl,(h1.facts .nil).picks (.cons .z .nil)⟩ hF
 refine gm rfl (gb rfl (gk rfl (nil (Run.slim [(0,.int .u8 a0),(1,.int .u8 a1),(2,.int .i64 a2),(3,.bool a3),(8,u1),(15,.bool (decide (a2>14)))] ⟨rfl,rfl,rfl,rfl,rfl,rfl,trivial⟩ ?_))))
 exact hj1 (decide (a2>14)) _ _ ⟨rfl,(h1.facts .nil).picks (.cons .z .nil)⟩ hF
theorem event_Threshold_ok {fuel:Nat} {a0:Int} {a1:Int} {a2:Int} {a3:Bool} {a4:Int} {a5:Int} {y:Event_×Int} (hF:event_Threshold fuel a0 a1 a2 a3 a4 a5=some y) {w:World} :
  Spec Tryz.prog 154 [.int .u8 a0,.int .u8 a1,.int .i64 a2,.bool a3,.int .u8 a4,.int .u8 a5].toArray w [GqC] [] (λ v Γr Ωr Ωo=>∃ u0:Value,v=.tuple #[u0,.int .i64 y.2]∧Γr=[(true,.val Event_.rep u0 y.1)]∧Ωr=[]∧Ωo=[]):=by
 refine Spec.of (L:=[(0,.int .u8 a0),(1,.int .u8 a1),(2,.int .i64 a2),(3,.bool a3),(4,.int .u8 a4),(5,.int .u8 a5)]) Tryz.func154 rfl ⟨rfl,rfl,rfl,rfl,rfl,rfl,trivial⟩ rfl (λ e h=>?_)
 unfold event_Threshold at hF
 refine sr (op (OpS.alloc h ti55 Event_.zr rfl rfl (λ u1 w1 h1=>?_)))
 refine ga rfl (nil (Run.seq (sr (gm rfl (gb rfl (gm rfl ?_))))))
 refine RunL.join (σ:=Bool) (λ s_ L_ w_=>L_=[(0,.int .u8 a0),(1,.int .u8 a1),(2,.int .i64 a2),(3,.bool a3),(4,.int .u8 a4),(5,.int .u8 a5),(12,u1),(19,.bool s_)]∧St e w_ [GqC] [(true,.box 55 Event_.rep u1 Event_.z)]) hF (λ s1 _ w2 hI hF=>?_) (λ j1 hj1 hF=>?_)
 ·obtain ⟨rfl,h2⟩:=hI
  refine Run.ite rfl hF (λ e1 hF=>?_) (λ e1 hF=>?_)
  ·refine sr (op (OpS.build (f:=true) (x':=Event_.z) h2 pl55 ti55 Event_.zr rfl rfl rfl .nil (λ u2 h3=>?_)))
   refine op (OpS.storeB (f':=true) h3 .z PA.z Put.id ty55 rfl rfl rfl (V.at .z) (.inl rfl) (λ w3 h4=>?_))
   refine ga rfl (nil ?_)
   obtain ⟨u3,hu1,h5⟩:=res_box h4 .z ty55
   refine Run.retP rfl (.cell rfl hu1 (.tmp rfl .nil)) ?_
   cases hF
   exact Post.mk' ⟨u3,rfl,rfl,rfl,rfl⟩ (h5.picks .nil) (.val (V.at .z) .nil)
  refine Run.skip (sr (gm rfl (gm rfl (gm rfl (op (OpS.not rfl rfl rfl ?_))))))
  refine gm rfl ?_
  obtain ⟨x1,e2,hF⟩:=bindP_use hF
  refine op (OpS.iarr h2 Tryz.underlying70 ty5 rfl rfl rfl rfl .z e2 (λ u4 h6=>?_))
  refine op (OpS.loadi h6 ty5 rfl rfl rfl .z ?_)
  refine gb rfl (gm rfl (gm rfl (op (OpS.buildA (f:=true) (r:=(Rep.int .u8)) h6 Tryz.underlying53 ti5 rfl ti53 rfl rfl rfl (.cons rfl V.int (.cons rfl V.int (.cons rfl V.int .nil))) rfl (λ u5 h7=>?_)))))
  refine op (OpS.build (f:=true) (x':=(⟨0,0,32,a0,a1,1,!a3,[(IntKind.u8.wrap (80+x1)),a4,a5]⟩:Event_)) h7 pl55 ti55 Event_.zr rfl rfl rfl (.cons rfl Event_.f2 rfl V.int (.cons rfl Event_.f3 rfl V.int (.cons rfl Event_.f4 rfl V.int (.cons rfl Event_.f5 rfl V.int (.cons rfl Event_.f6 rfl V.bool (.cons rfl Event_.f7 rfl (V.at .z) .nil)))))) (λ u6 h8=>?_))
  refine op (OpS.storeB (f':=true) h8 .z PA.z Put.id ty55 rfl rfl rfl (V.at .z) (.inl rfl) (λ w4 h9=>?_))
  refine ga rfl (nil ?_)
  obtain ⟨u7,hu2,h10⟩:=res_box h9 .z ty55
  refine Run.retP rfl (.cell rfl hu2 (.tmp rfl .nil)) ?_
  cases hF
  exact Post.mk' ⟨u7,rfl,rfl,rfl,rfl⟩ (h10.picks .nil) (.val (V.at .z) .nil)
 refine RunL.caseb hF (λ e3 hF=>?_) (λ e3 hF=>?_)
 ·refine gp rfl (gp rfl (gk rfl (nil (Run.slim [(0,.int .u8 a0),(1,.int .u8 a1),(2,.int .i64 a2),(3,.bool a3),(4,.int .u8 a4),(5,.int .u8 a5),(12,u1),(19,.bool true)] ⟨rfl,rfl,rfl,rfl,rfl,rfl,rfl,rfl,trivial⟩ ?_))))
  exact hj1 (true) _ _ ⟨rfl,(h1.facts (.atm .z .nil)).picks (.cons .z .nil)⟩ hF
 refine gm rfl (gb rfl (gk rfl (nil (Run.slim [(0,.int .u8 a0),(1,.int .u8 a1),(2,.int .i64 a2),(3,.bool a3),(4,.int .u8 a4),(5,.int .u8 a5),(12,u1),(19,.bool (decide (a2≥6)))] ⟨rfl,rfl,rfl,rfl,rfl,rfl,rfl,rfl,trivial⟩ ?_))))
 exact hj1 (decide (a2≥6)) _ _ ⟨rfl,(h1.facts (.atm .z .nil)).picks (.cons .z .nil)⟩ hF
set_option maxHeartbeats 8000000 in set_option maxRecDepth 20000 in
theorem monitor_events_ok {fuel:Nat} {a0:Sensor_} {a1:List Change_} {a2:Int} {y:(List Event_)} (hF:monitor_events fuel a0 a1 a2=some y) {w:World} {v0 v1:Value} :
  Spec Tryz.prog 82 [v0,v1,.int .u8 a2].toArray w [(false,.val Sensor_.rep v0 a0),(false,.val (Rep.slice Change_.rep) v1 a1),GqC] [] (λ v Γr Ωr Ωo=>∃ u0:Value,v=u0∧Γr=[]∧Ωr=[(true,(.slice 55 Event_.rep u0 y))]∧Ωo=[]):=by
 refine Spec.of (L:=[(0,v0),(1,v1),(2,.int .u8 a2)]) Tryz.func82 rfl ⟨rfl,rfl,rfl,trivial⟩ rfl (λ e h=>?_)
 unfold monitor_events at hF
 refine sr (op (OpS.boxF h rfl rfl rfl (V.at .z) (λ u1 w1 h1=>?_)))
 refine ga rfl (nil (sr (ga rfl (nil (Run.seq (sr (gm rfl (op (OpS.len h1 Tryz.underlying191 rfl rfl rfl (V.at (.s .z)) ?_)))))))))
 refine gm rfl (nil (Run.block ?_))
 have h2:=St.nil 55 Event_.rep h1
 refine Run.slim [(2,.int .u8 a2),(3,u1),(7,(.slice none 0 0)),(12,v1),(13,.int .i64 (a1.length:Int)),(14,.int .i64 0)] ⟨rfl,rfl,rfl,rfl,rfl,rfl,trivial⟩ ?_
 refine Run.loopP (σ:=(Int×(List Event_))) (λ s_ L_ w_=>∃ u0_:Value,L_=[(2,.int .u8 a2),(3,u1),(7,u0_),(12,v1),(13,.int .i64 (a1.length:Int)),(14,.int .i64 s_.1)]∧St e w_ [(false,.val (Rep.slice Change_.rep) v1 a1),GqC] [(false,.box 74 Sensor_.rep u1 a0),(true,.slice 55 Event_.rep u0_ s_.2)]) hF ⟨(.slice none 0 0),rfl,(h2.facts (.atm (.s .z) (.atm (.s (.s .z)) .nil))).picks (.cons (.s .z) (.cons .z .nil))⟩ (λ k1 hk1 s1 _ w2 hI hF=>?_)
 obtain ⟨u2,rfl,h3⟩:=hI
 refine sr (gb rfl (nil (Run.seq ?_)))
 refine Run.ite rfl hF (λ e1 hF=>?_) (λ e1 hF=>?_)
 ·refine Run.skip (Run.seq (Run.block (sr ?_)))
  obtain ⟨x1,e2,hF⟩:=bindP_use hF
  refine op (OpS.iptr h3 Tryz.underlying191 ty288 rfl rfl rfl rfl (V.at .z) e2 (λ u3 h4=>?_))
  refine op (OpS.load h4 ty288 rfl rfl rfl .z (λ u4 h5=>?_))
  refine op (OpS.alloc h5 ti288 Change_.zr rfl rfl (λ u5 w3 h6=>?_))
  have h7:=(h6.pick .z).weak
  refine op (OpS.storeB (f':=false) h7 .z PA.z Put.id ty288 rfl rfl rfl (V.at .z) (.inr rfl) (λ w4 h8=>?_))
  refine nil (sr (op (OpS.fbox (o3:=25) h8 (.s .z) PA.z fa74_12 rfl rfl rfl rfl ?_)))
  refine op (OpS.loadBi h8 (.s .z) PA.a (Get.fld Sensor_.f12) ty49 rfl rfl rfl ?_)
  refine ga rfl (nil (Run.seq (sr (op (OpS.fbox (o3:=1) h8 .z PA.z fa288_1 rfl rfl rfl rfl ?_)))))
  refine op (OpS.loadBb h8 .z PA.a (Get.fld Change_.f1) ty4 rfl rfl rfl ?_)
  refine nil ?_
  refine Run.join (σ:=Int) (λ s_ L_ w_=>L_=[(2,.int .u8 a2),(3,u1),(7,u2),(9,u5),(10,.int .u16 s_),(12,v1),(13,.int .i64 (a1.length:Int)),(14,.int .i64 s1.1)]∧St e w_ [(false,.val (Rep.slice Change_.rep) v1 a1),GqC] [(false,.box 74 Sensor_.rep u1 a0),(false,.box 288 Change_.rep u5 x1),(true,.slice 55 Event_.rep u2 s1.2)]) hF (λ s2 _ w5 hI hF=>?_) (λ j1 hj1 hF=>?_)
  ·obtain ⟨rfl,h9⟩:=hI
   refine Run.seq (sr (gm rfl (op (OpS.fbox (o3:=0) h9 (.s .z) PA.z fa288_0 rfl rfl rfl rfl ?_))))
   refine op (OpS.loadBi h9 (.s .z) PA.a (Get.fld Change_.f0) ty3 rfl rfl rfl ?_)
   obtain ⟨e3,hF⟩:=chk_use hF
   refine op (OpS.shr rfl rfl rfl rfl e3 ?_)
   refine gb rfl (gb rfl (nil ?_))
   refine Run.ite rfl hF (λ e4 hF=>?_) (λ e4 hF=>?_)
   ·refine Run.exit rfl ?_
    refine Run.reg (gb rfl (gm rfl (nil (Run.slim [(2,.int .u8 a2),(3,u1),(7,u2),(12,v1),(13,.int .i64 (a1.length:Int)),(14,.int .i64 (IntKind.i64.wrap (s1.1+1)))] ⟨rfl,rfl,rfl,rfl,rfl,rfl,trivial⟩ ?_))))
    exact hk1 ((IntKind.i64.wrap (s1.1+1)),s1.2) _ _ ⟨u2,rfl,(h9.facts (.atm .z (.atm (.s .z) .nil))).picks (.cons .z (.cons (.s .z) .nil))⟩ hF
   refine Run.skip (sr (op (OpS.alloc h9 ti55 Event_.zr rfl rfl (λ u6 w6 h10=>?_))))
   refine nil (Run.seq (sr (op (OpS.fbox (o3:=6) h10 (.s .z) PA.z fa74_5 rfl rfl rfl rfl ?_))))
   refine op (OpS.loadBb h10 (.s .z) PA.a (Get.fld Sensor_.f5) ty4 rfl rfl rfl ?_)
   refine nil ?_
   refine Run.join (σ:=Event_) (λ s_ L_ w_=>L_=[(2,.int .u8 a2),(3,u1),(7,u2),(11,u6),(12,v1),(13,.int .i64 (a1.length:Int)),(14,.int .i64 s1.1)]∧St e w_ [(false,.val (Rep.slice Change_.rep) v1 a1),GqC] [(false,.box 74 Sensor_.rep u1 a0),(true,.box 55 Event_.rep u6 s_),(true,.slice 55 Event_.rep u2 s1.2)]) hF (λ s3 _ w7 hI hF=>?_) (λ j2 hj2 hF=>?_)
   ·obtain ⟨rfl,h11⟩:=hI
    refine Run.reg (gm rfl (op (OpS.loadB h11 (.s .z) PA.z Get.id ty55 rfl rfl rfl (λ u7 h12=>?_))))
    refine op (OpS.lit (r:=Event_.rep) (f:=true) h12 Tryz.underlying40 ti55 rfl rfl rfl rfl rfl (.cons rfl (V.at .z) .nil) rfl rfl (λ u8 w8 h13=>?_))
    obtain ⟨x2,e5,hF⟩:=bindP_use hF
    refine op (OpS.app (f':=true) h13 (.s (.s .z)) Tryz.underlying40 ti55 rfl rfl rfl rfl rfl rfl rfl (V.at .z) (.inr Event_.pure) e5 (λ u9 w9 h14=>?_))
    refine ga rfl (nil (Run.endBlock (Run.reg (gb rfl (gm rfl (nil (Run.slim [(2,.int .u8 a2),(3,u1),(7,u9),(12,v1),(13,.int .i64 (a1.length:Int)),(14,.int .i64 (IntKind.i64.wrap (s1.1+1)))] ⟨rfl,rfl,rfl,rfl,rfl,rfl,trivial⟩ ?_)))))))
    exact hk1 ((IntKind.i64.wrap (s1.1+1)),x2) _ _ ⟨u9,rfl,(h14.facts (.atm (.s (.s .z)) (.atm (.s (.s (.s .z))) .nil))).picks (.cons (.s .z) (.cons .z .nil))⟩ hF
   refine Run.ite rfl hF (λ e6 hF=>?_) (λ e6 hF=>?_)
   ·refine Run.reg (op (OpS.fbox (o3:=1) h10 (.s .z) PA.z fa74_1 rfl rfl rfl rfl ?_))
    refine op (OpS.loadBi h10 (.s .z) PA.a (Get.fld Sensor_.f1) ty5 rfl rfl rfl ?_)
    refine op (OpS.fbox (o3:=0) h10 (.s .z) PA.z fa74_0 rfl rfl rfl rfl ?_)
    refine op (OpS.loadBi h10 (.s .z) PA.a (Get.fld Sensor_.f0) ty5 rfl rfl rfl ?_)
    refine op (OpS.fbox (o3:=0) h10 (.s (.s .z)) PA.z fa288_0 rfl rfl rfl rfl ?_)
    refine op (OpS.loadBi h10 (.s (.s .z)) PA.a (Get.fld Change_.f0) ty3 rfl rfl rfl ?_)
    refine op (OpS.fbox (o3:=1) h10 (.s (.s .z)) PA.z fa288_1 rfl rfl rfl rfl ?_)
    refine op (OpS.loadBb h10 (.s (.s .z)) PA.a (Get.fld Change_.f1) ty4 rfl rfl rfl ?_)
    obtain ⟨y1,e7,hF⟩:=bindP_use hF
    refine op (OpS.callP h10 Tryz.func153 rfl rfl rfl rfl (vs:=[.int .u8 a0.Type_,.int .u8 a0.Number,.int .i64 x1.Index,.bool x1.Asserted]) rfl (event_State_ok e7) .nil ?_)
    rintro _ w10 _ _ _ ⟨u10,rfl,rfl,rfl,rfl⟩ h15
    have h16:=h15 rfl rfl
    simp only [ca,na] at h16
    refine gm rfl (op (OpS.ext rfl rfl rfl rfl ?_))
    refine op (OpS.ext rfl rfl rfl rfl ?_)
    refine op (OpS.storeB (f':=true) h16 .z PA.z Put.id ty55 rfl rfl rfl (V.at .z) (.inl rfl) (λ w11 h17=>?_))
    refine nil (Run.slim [(2,.int .u8 a2),(3,u1),(7,u2),(11,u6),(12,v1),(13,.int .i64 (a1.length:Int)),(14,.int .i64 s1.1)] ⟨rfl,rfl,rfl,rfl,rfl,rfl,rfl,trivial⟩ ?_)
    exact hj2 (y1.1) _ _ ⟨rfl,(h17.facts (.atm (.s .z) (.atm (.s (.s .z)) .nil))).picks (.cons (.s .z) (.cons .z (.cons (.s .z) .nil)))⟩ hF
   obtain ⟨x3,e8,hF⟩:=bindP_use hF
   obtain ⟨e9,hF⟩:=chk_use hF
   obtain ⟨y2,e10,hF⟩:=bindP_use hF
   refine Run.drawV (Ωs:=[(true,.slice 55 Event_.rep u2 s1.2)]) [.kr 45 (padd u1 1) [1],.kr 46 (.int .u8 a0.Type_) [1],.kr 47 (padd u1 0) [1],.kr 48 (.int .u8 a0.Number) [1],.kr 49 (padd u5 0) [2],.kr 50 (.int .i64 x1.Index) [2],.kr 51 (padd u5 1) [2],.kr 52 (.bool x1.Asserted) [2],.k 53 (.int .u8 a2),.kr 54 (padd u5 0) [2],.kr 55 (.int .i64 x1.Index) [2],.kr 56 (padd u1 14) [1],.kr 57 (padd u1 15) [1],.kr 58 (padd u1 (15+(x1.Index:Int).toNat*(Rep.int .u8).n)) [1],.kr 59 (.int .u8 x3) [1],.f 60 (λ u_=>[(true,.eqv u_ (.tuple #[(tcomp u_ 0),.int .i64 y2.2])),(true,.val Event_.rep (tcomp u_ 0) y2.1)]),.f 44 (λ u_=>[(true,.eqv u_ (.tuple #[(tcomp u_ 0),.int .i64 y2.2])),(true,.val Event_.rep (tcomp u_ 0) y2.1)]),.f 61 (λ u_=>[(true,.val Event_.rep u_ y2.1)]),.k 62 (.int .i64 y2.2),⟨none,some undef,λ _=>[],λ ds_ u_=>[(true,.box 55 Event_.rep u6 y2.1)],[0],[],none⟩] [[],[0],[],[2],[],[4],[],[6],[],[],[9],[],[11],[12,10],[13],[1,3,5,7,8,14],[15],[16],[16],[17]] [[(true,.box 55 Event_.rep u6 Event_.z)],[(false,.box 74 Sensor_.rep u1 a0)],[(false,.box 288 Change_.rep u5 x1)]] [1,2,3,4,5,6,7,8,9,10,11,12,13,14,15,16,17,18,19,20,21,22] Try_mixed rfl rfl rfl h10 (.cons ?_ (.cons ?_ (.cons ?_ (.cons ?_ (.cons ?_ (.cons ?_ (.cons ?_ (.cons ?_ (.cons ?_ (.cons ?_ (.cons ?_ (.cons ?_ (.cons ?_ (.cons ?_ (.cons ?_ (.cons ?_ (.cons ?_ (.cons ?_ (.cons ?_ (.cons ?_ .nil)))))))))))))))))))) (λ q1 w hq1 h=>?_)
   ·intro q1 w Γx Ωx h
    refine OpS.fbox (o3:=1) h .z PA.z fa74_1 rfl rfl rfl rfl ?_
    exact du h
   ·intro q1 w Γx Ωx h
    refine OpS.loadBi h .z PA.a (Get.fld Sensor_.f1) ty5 rfl rfl rfl ?_
    exact du h
   ·intro q1 w Γx Ωx h
    refine OpS.fbox (o3:=0) h .z PA.z fa74_0 rfl rfl rfl rfl ?_
    exact du h
   ·intro q1 w Γx Ωx h
    refine OpS.loadBi h .z PA.a (Get.fld Sensor_.f0) ty5 rfl rfl rfl ?_
    exact du h
   ·intro q1 w Γx Ωx h
    refine OpS.fbox (o3:=0) h .z PA.z fa288_0 rfl rfl rfl rfl ?_
    exact du h
   ·intro q1 w Γx Ωx h
    refine OpS.loadBi h .z PA.a (Get.fld Change_.f0) ty3 rfl rfl rfl ?_
    exact du h
   ·intro q1 w Γx Ωx h
    refine OpS.fbox (o3:=1) h .z PA.z fa288_1 rfl rfl rfl rfl ?_
    exact du h
   ·intro q1 w Γx Ωx h
    refine OpS.loadBb h .z PA.a (Get.fld Change_.f1) ty4 rfl rfl rfl ?_
    exact du h
   ·intro q1 w Γx Ωx h
    refine OpS.mv rfl rfl rfl ?_
    exact du h
   ·intro q1 w Γx Ωx h
    refine OpS.fbox (o3:=0) h .z PA.z fa288_0 rfl rfl rfl rfl ?_
    exact du h
   ·intro q1 w Γx Ωx h
    refine OpS.loadBi h .z PA.a (Get.fld Change_.f0) ty3 rfl rfl rfl ?_
    exact du h
   ·intro q1 w Γx Ωx h
    refine OpS.fbox (o3:=14) h .z PA.z fa74_7 rfl rfl rfl rfl ?_
    exact du h
   ·intro q1 w Γx Ωx h
    refine OpS.fbox (o3:=15) h .z PA.a fa72_1 rfl rfl rfl rfl ?_
    exact du h
   ·intro q1 w Γx Ωx h
    refine OpS.ibox h .z PA.a Tryz.underlying70 ty5 (Nat.eq_of_beq_eq_true e9) rfl rfl rfl rfl e8 ?_
    exact du h
   ·intro q1 w Γx Ωx h
    refine OpS.loadBi h .z PA.a (Get.comp (Get.comp (Get.fld Sensor_.f7) (Get.fld Thresholds_.f1)) (Get.arr e8)) ty5 rfl rfl rfl ?_
    exact du h
   ·intro q1 w Γx Ωx h
    refine OpS.callP h Tryz.func154 rfl rfl rfl rfl (vs:=[.int .u8 a0.Type_,.int .u8 a0.Number,.int .i64 x1.Index,.bool x1.Asserted,.int .u8 a2,.int .u8 x3]) rfl (event_Threshold_ok e10) (.ptr (.s .z) .nil) ?_
    rintro _ w14 _ _ _ ⟨u12,rfl,rfl,rfl,rfl⟩ h21
    have h22:=h21 rfl rfl
    simp only [ca,na] at h22
    exact ⟨_,rfl,trivial,St.eqv rfl h22⟩
   ·intro q1 w Γx Ωx h
    refine OpS.mv rfl rfl rfl ?_
    exact ⟨_,rfl,trivial,((h.dup (.s .z)).dup (.s .z))⟩
   ·intro q1 w Γx Ωx h
    refine OpS.extT h .z rfl rfl rfl rfl ?_
    exact ⟨_,rfl,trivial,(h.dup (.s .z))⟩
   ·intro q1 w Γx Ωx h
    refine OpS.extT h .z rfl rfl rfl rfl ?_
    exact du h
   ·intro q1 w Γx Ωx h
    refine OpS.storeB (f':=true) h .z PA.z Put.id ty55 rfl rfl rfl (V.at .z) (.inl rfl) (λ w15 h23=>?_)
    exact ⟨undef,trivial,trivial,h23⟩
   have h24:=h
   refine nil (Run.slim [(2,.int .u8 a2),(3,u1),(7,u2),(11,u6),(12,v1),(13,.int .i64 (a1.length:Int)),(14,.int .i64 s1.1)] ⟨rfl,rfl,rfl,rfl,rfl,rfl,rfl,trivial⟩ ?_)
   exact hj2 (y2.1) _ _ ⟨rfl,(h24.facts (.atm (.s (.s (.s (.s (.s .z))))) (.atm (.s (.s (.s (.s (.s (.s .z)))))) .nil))).picks (.cons .z (.cons (.s .z) (.cons (.s .z) .nil)))⟩ hF
  refine Run.ite rfl hF (λ e11 hF=>?_) (λ e11 hF=>?_)
  ·refine Run.reg (op (OpS.fbox (o3:=24) h8 (.s .z) PA.z fa74_11 rfl rfl rfl rfl ?_))
   refine op (OpS.loadBi h8 (.s .z) PA.a (Get.fld Sensor_.f11) ty49 rfl rfl rfl ?_)
   refine ga rfl (nil (Run.slim [(2,.int .u8 a2),(3,u1),(7,u2),(9,u5),(10,.int .u16 a0.Assert),(12,v1),(13,.int .i64 (a1.length:Int)),(14,.int .i64 s1.1)] ⟨rfl,rfl,rfl,rfl,rfl,rfl,rfl,rfl,trivial⟩ ?_))
   exact hj1 (a0.Assert) _ _ ⟨rfl,(h8.facts (.atm (.s (.s .z)) (.atm (.s (.s (.s .z))) .nil))).picks (.cons (.s .z) (.cons .z (.cons .z .nil)))⟩ hF
  refine Run.skip (Run.slim [(2,.int .u8 a2),(3,u1),(7,u2),(9,u5),(10,.int .u16 a0.Deassert),(12,v1),(13,.int .i64 (a1.length:Int)),(14,.int .i64 s1.1)] ⟨rfl,rfl,rfl,rfl,rfl,rfl,rfl,rfl,trivial⟩ ?_)
  exact hj1 (a0.Deassert) _ _ ⟨rfl,(h8.facts (.atm (.s (.s .z)) (.atm (.s (.s (.s .z))) .nil))).picks (.cons (.s .z) (.cons .z (.cons .z .nil)))⟩ hF
 refine Run.exit rfl ?_
 refine sr (gm rfl (ga rfl (nil (Run.retP rfl (.tmp rfl .nil) ?_))))
 cases hF
 exact Post.mk' ⟨u2,rfl,rfl,rfl,rfl⟩ (h3.picks (.cons (.s .z) .nil)) .nil
theorem monitor_Monitor_Scan_1_2_ok {fuel:Nat} {a0:Sample_} {a1:Sensor_} {y:Bool} (hF:monitor_Monitor_Scan_1_2 fuel a0 a1=some y) {w:World} {v0 v1:Value} :
  Spec Tryz.prog 80 [v0,v1].toArray w [(false,.val Sample_.rep v0 a0),(false,.ptr Sensor_.rep v1 a1)] [] (λ v Γr Ωr Ωo=>v=.bool y∧Γr=[]∧Ωr=[]∧Ωo=[]):=by
 refine Spec.of (L:=[(0,v0),(1,v1)]) Tryz.func80 rfl ⟨rfl,rfl,trivial⟩ rfl (λ e h=>?_)
 unfold monitor_Monitor_Scan_1_2 at hF
 refine sr (op (OpS.boxF h rfl rfl rfl (V.at .z) (λ u1 w1 h1=>?_)))
 refine ga rfl (nil (sr (op (OpS.fbox (o3:=0) h1 .z PA.z fa93_0 rfl rfl rfl rfl ?_))))
 refine op (OpS.loadBi h1 .z PA.a (Get.fld Sample_.f0) ty5 rfl rfl rfl ?_)
 refine op (OpS.fptr h1 fa74_0 Sensor_.f0 rfl rfl rfl (.s .z) (λ u2 h2=>?_))
 refine op (OpS.loadi h2 ty5 rfl rfl rfl .z ?_)
 refine gb rfl (ga rfl ?_)
 obtain ⟨x1,e1,hF⟩:=letP_use hF
 refine RunL.nameb e1 ?_
 refine nil (Run.retP rfl (.tmp rfl .nil) ?_)
 cases hF
 exact Post.mk' ⟨rfl,rfl,rfl,rfl⟩ (h2.picks .nil) .nil
theorem slices_IndexFunc_api_Sample_api_Sample_monitor_Monitor_Scan_1_ok {fuel:Nat} {a0:List Sample_} {a1_0:Sensor_} {y:Int} (hF:slices_IndexFunc_api_Sample_api_Sample_monitor_Monitor_Scan_1 fuel a0 a1_0=some y) {w:World} {v0 v1_0:Value} :
  Spec Tryz.prog 79 [v0,.func (.func 80) #[] #[v1_0]].toArray w [(false,.val (Rep.slice Sample_.rep) v0 a0),(false,.ptr Sensor_.rep v1_0 a1_0)] [] (λ v Γr Ωr Ωo=>v=.int .i64 y∧Γr=[]∧Ωr=[]∧Ωo=[]):=by
 refine Spec.of (L:=[(0,v0),(1,.func (.func 80) #[] #[v1_0])]) Tryz.func79 rfl ⟨rfl,rfl,trivial⟩ rfl (λ e h=>?_)
 unfold slices_IndexFunc_api_Sample_api_Sample_monitor_Monitor_Scan_1 at hF
 refine sr (ga rfl (nil (Run.seq (sr (gm rfl (op (OpS.len h Tryz.underlying41 rfl rfl rfl (V.at .z) ?_)))))))
 refine gm rfl (nil (Run.block (Run.slim [(0,v0),(1,.func (.func 80) #[] #[v1_0]),(7,.int .i64 (a0.length:Int)),(8,.int .i64 0)] ⟨rfl,rfl,rfl,rfl,trivial⟩ ?_)))
 refine Run.loopP (σ:=Int) (λ s_ L_ w_=>L_=[(0,v0),(1,.func (.func 80) #[] #[v1_0]),(7,.int .i64 (a0.length:Int)),(8,.int .i64 s_)]∧St e w_ [(false,.val (Rep.slice Sample_.rep) v0 a0),(false,.ptr Sensor_.rep v1_0 a1_0)] []) hF ⟨rfl,(h.facts (.atm .z (.atm (.s .z) .nil))).picks .nil⟩ (λ k1 hk1 s1 _ w1 hI hF=>?_)
 obtain ⟨rfl,h1⟩:=hI
 refine sr (gb rfl (nil (Run.seq ?_)))
 refine Run.ite rfl hF (λ e1 hF=>?_) (λ e1 hF=>?_)
 ·refine Run.skip (Run.seq (Run.block (sr (gm rfl (ga rfl (nil (sr (gm rfl (gm rfl (gm rfl ?_))))))))))
  obtain ⟨x1,e2,hF⟩:=bindP_use hF
  refine op (OpS.iptr h1 Tryz.underlying41 ty93 rfl rfl rfl rfl (V.at .z) e2 (λ u1 h2=>?_))
  refine op (OpS.load h2 ty93 rfl rfl rfl .z (λ u2 h3=>?_))
  obtain ⟨y1,e3,hF⟩:=bindP_use hF
  refine op (OpS.callPF (fl:=[]) (cl:=[v1_0]) h3 Tryz.func80 rfl rfl rfl rfl rfl (vs:=[u2]) rfl (monitor_Monitor_Scan_1_2_ok e3) (.cons (f:=false) (V.at .z) (.ptr (.s (.s (.s .z))) .nil)) ?_)
  rintro _ w2 _ _ _ ⟨rfl,rfl,rfl,rfl⟩ h4
  have h5:=h4 rfl rfl
  simp only [ca,na] at h5
  refine nil ?_
  refine Run.ite rfl hF (λ e4 hF=>?_) (λ e4 hF=>?_)
  ·refine sr (gm rfl (ga rfl (nil (Run.retP rfl (.tmp rfl .nil) ?_))))
   cases hF
   exact Post.mk' ⟨rfl,rfl,rfl,rfl⟩ (h5.picks .nil) .nil
  refine Run.skip (Run.endBlock (Run.reg (gb rfl (gm rfl (nil (Run.slim [(0,v0),(1,.func (.func 80) #[] #[v1_0]),(7,.int .i64 (a0.length:Int)),(8,.int .i64 (IntKind.i64.wrap (s1+1)))] ⟨rfl,rfl,rfl,rfl,trivial⟩ ?_))))))
  exact hk1 ((IntKind.i64.wrap (s1+1))) _ _ ⟨rfl,(h5.facts (.atm (.s (.s .z)) (.atm (.s (.s (.s .z))) .nil))).picks .nil⟩ hF
 refine Run.exit rfl ?_
 refine sr (ga rfl (nil (Run.retP rfl (.tmp rfl .nil) ?_)))
 cases hF
 exact Post.mk' ⟨rfl,rfl,rfl,rfl⟩ (h1.picks .nil) .nil
set_option maxHeartbeats 8000000 in set_option maxRecDepth 20000 in
theorem monitor_Monitor_Scan_ok {fuel:Nat} {a0:monitor_Monitor} {a1:List Sample_} {a2:List Entity_} {a3:Bool} {y:(List Event_)×Int×monitor_Monitor} (hF:monitor_Monitor_Scan fuel a0 a1 a2 a3=some y) {w:World} {v0 v0_0 v0_1 v1 v2:Value} :
  Spec Tryz.prog 20 [v0,v1,v2,.bool a3].toArray w [(false,.val (Rep.slice Sample_.rep) v1 a1),(false,.val (Rep.slice Entity_.rep) v2 a2),GqC] [(false,.box 184 (monitor_Monitor.repW v0_0 v0_1) v0 a0),(false,.slice 188 Filter_.rep v0_0 a0.filters),(false,.slice 49 (Rep.int .u16) v0_1 a0.states)] (λ v Γr Ωr Ωo=>∃ u0 w0_0 w0_1:Value,v=.tuple #[u0,.int .i64 y.2.1]∧Γr=[]∧Ωr=[(true,(.slice 55 Event_.rep u0 y.1))]∧Ωo=[(false,.box 184 (monitor_Monitor.repW w0_0 w0_1) v0 y.2.2),(false,(.slice 188 Filter_.rep w0_0 y.2.2.filters)),(false,(.slice 49 (Rep.int .u16) w0_1 y.2.2.states))]):=by
 refine Spec.of (L:=[(0,v0),(1,v1),(2,v2),(3,.bool a3)]) Tryz.func20 rfl ⟨rfl,rfl,rfl,rfl,trivial⟩ rfl (λ e h=>?_)
 unfold monitor_Monitor_Scan at hF
 refine sr (ga rfl (ga rfl (nil (Run.seq (sr (gm rfl (gm rfl ?_)))))))
 obtain ⟨y1,e1,hF⟩:=bindP_use hF
 have h1:=h.front (.cons .z (.cons .z (.cons .z .nil)))
 refine op (OpS.callO h1 Tryz.func77 rfl rfl rfl rfl (vs:=[v0,v1]) rfl (monitor_Monitor_check_ok e1) rfl (.cons (f:=false) (V.at .z) .nil) ?_)
 rintro _ w1 _ _ _ ⟨rfl,rfl,rfl,rfl⟩ h2
 have h3:=h2
 simp only [ca,na] at h3
 refine ga rfl (nil (sr (gm rfl (gb rfl (nil ?_)))))
 refine Run.ite rfl hF (λ e2 hF=>?_) (λ e2 hF=>?_)
 ·refine sr (gm rfl (ga rfl (ga rfl (nil ?_))))
  have h4:=St.nil 55 Event_.rep h3
  refine Run.retP rfl (.tmp rfl (.tmp rfl .nil)) ?_
  cases hF
  exact Post.mk' ⟨(.slice none 0 0),v0_0,v0_1,rfl,rfl,rfl,rfl⟩ (h4.picks (.cons .z (.cons .z (.cons .z (.cons .z .nil))))) .nil
 refine Run.skip (sr (ga rfl (nil (Run.seq (sr (gm rfl (op (OpS.nchk h3 .z rfl rfl rfl ?_))))))))
 refine op (OpS.fbox (o3:=0) h3 .z PA.z fa184_0 rfl rfl rfl rfl ?_)
 refine op (OpS.loadB (fr:=(Rep.slice Sensor_.rep)) h3 .z PA.a (GetS.ok (GetS.iso _ (GetS.here GetS.id))) (Ty.like ty27 (by rfl) (by rfl)) rfl rfl rfl (λ u1 h5=>?_))
 refine op (OpS.len h5 Tryz.underlying27 rfl rfl rfl (V.at .z) ?_)
 refine gm rfl (nil (Run.block ?_))
 have h6:=St.nil 55 Event_.rep h5
 refine Run.slim [(0,v0),(1,v1),(2,v2),(3,.bool a3),(11,(.slice none 0 0)),(29,u1),(30,.int .i64 (a0.sensors.length:Int)),(31,.int .i64 0)] ⟨rfl,rfl,rfl,rfl,rfl,rfl,rfl,rfl,trivial⟩ ?_
 refine Run.loopP (σ:=(Int×monitor_Monitor×(List Event_))) (λ s_ L_ w_=>∃ u0_ u1_ u2_:Value,L_=[(0,v0),(1,v1),(2,v2),(3,.bool a3),(11,u0_),(29,u1),(30,.int .i64 (a0.sensors.length:Int)),(31,.int .i64 s_.1)]∧St e w_ [(false,.val (Rep.slice Sample_.rep) v1 a1),(false,.val (Rep.slice Entity_.rep) v2 a2),(false,.val (Rep.slice Sensor_.rep) u1 a0.sensors),GqC] [(false,.box 184 (monitor_Monitor.repW u1_ u2_) v0 s_.2.1),(true,.slice 55 Event_.rep u0_ s_.2.2),(false,.slice 188 Filter_.rep u1_ s_.2.1.filters),(false,.slice 49 (Rep.int .u16) u2_ s_.2.1.states)]) hF ⟨(.slice none 0 0),v0_0,v0_1,rfl,(h6.facts (.atm (.s .z) (.atm (.s (.s .z)) (.atm .z (.atm (.s (.s (.s .z))) .nil))))).picks (.cons (.s .z) (.cons .z (.cons .z (.cons .z .nil))))⟩ (λ k1 hk1 s1 _ w2 hI hF=>?_)
 obtain ⟨u2,u3,u4,rfl,h7⟩:=hI
 refine sr (gb rfl (nil (Run.seq ?_)))
 refine Run.ite rfl hF (λ e3 hF=>?_) (λ e3 hF=>?_)
 ·refine Run.skip (Run.seq (Run.block (sr (gm rfl ?_))))
  obtain ⟨x1,e4,hF⟩:=bindP_use hF
  refine op (OpS.iptr h7 Tryz.underlying27 ty74 rfl rfl rfl rfl (V.at (.s (.s .z))) e4 (λ u5 h8=>?_))
  refine op (OpS.load h8 ty74 rfl rfl rfl .z (λ u6 h9=>?_))
  refine op (OpS.alloc h9 ti74 Sensor_.zr rfl rfl (λ u7 w3 h10=>?_))
  refine ga rfl ?_
  have h11:=(h10.pick .z).weak
  refine op (OpS.storeB (f':=false) h11 .z PA.z Put.id ty74 rfl rfl rfl (V.at .z) (.inr rfl) (λ w4 h12=>?_))
  refine nil (Run.seq (Run.seq ?_))
  obtain ⟨y2,e5,hF⟩:=bindP_use hF
  refine Run.drawV (Ωs:=[(true,.slice 55 Event_.rep u2 s1.2.2),(false,.slice 188 Filter_.rep u3 s1.2.1.filters),(false,.slice 49 (Rep.int .u16) u4 s1.2.1.states)]) [.k 37 v0,.kr 38 v0 [1],.kr 39 (padd v0 1) [1],.fr 40 (λ u_=>[(false,.val (Rep.slice Association_.rep) u_ s1.2.1.l)]) [1],.k 41 v2,.kr 42 (padd u7 4) [0],.fr 43 (λ u_=>[(false,.val Entity_.rep u_ x1.Entity)]) [0],.k 44 (.tuple #[.bool y2.1,.int .i64 y2.2]),.k 36 (.tuple #[.bool y2.1,.int .i64 y2.2]),.k 45 (.bool y2.1),.k 46 (.int .i64 y2.2),.k 14 (.bool y2.1)] [[],[0],[1],[2],[],[],[5],[3,4,6],[7],[8],[8],[9]] [[(false,.box 74 Sensor_.rep u7 x1)],[(false,.box 184 (monitor_Monitor.repW u3 u4) v0 s1.2.1)]] [0,1,2,3,4,5,6,7,8,9,10,11,12,13] Try_mixed rfl rfl rfl h12 (.cons ?_ (.cons ?_ (.cons ?_ (.cons ?_ (.cons ?_ (.cons ?_ (.cons ?_ (.cons ?_ (.cons ?_ (.cons ?_ (.cons ?_ (.cons ?_ .nil)))))))))))) (λ q1 w hq1 h=>?_)
  ·intro q1 w Γx Ωx h
   refine OpS.mv rfl rfl rfl ?_
   exact du h
  ·intro q1 w Γx Ωx h
   refine OpS.nchk h .z rfl rfl rfl ?_
   exact du h
  ·intro q1 w Γx Ωx h
   refine OpS.fbox (o3:=1) h .z PA.z fa184_1 rfl rfl rfl rfl ?_
   exact du h
  ·intro q1 w Γx Ωx h
   refine OpS.loadB (fr:=(Rep.slice Association_.rep)) h .z PA.a (GetS.ok (GetS.iso _ (GetS.there (GetS.here GetS.id)))) (Ty.like ty76 (by rfl) (by rfl)) rfl rfl rfl (λ u h17=>?_)
   exact ⟨u,rfl,trivial,h17⟩
  ·intro q1 w Γx Ωx h
   refine OpS.mv rfl rfl rfl ?_
   exact du h
  ·intro q1 w Γx Ωx h
   refine OpS.fbox (o3:=4) h .z PA.z fa74_4 rfl rfl rfl rfl ?_
   exact du h
  ·intro q1 w Γx Ωx h
   refine OpS.loadB h .z PA.a (Get.fld Sensor_.f4) ty66 rfl rfl rfl (λ u h18=>?_)
   exact ⟨u,rfl,trivial,h18⟩
  ·intro q1 w Γx Ωx h
   refine OpS.callP h Tryz.func78 rfl rfl rfl rfl (vs:=[(q1 3),v2,(q1 6)]) rfl (entity_Present_ok e5) (.cons (f:=false) (V.at .z) (.cons (f:=false) (V.at (.s (.s (.s (.s (.s .z)))))) (.cons (f:=false) (V.at (.s .z)) .nil))) ?_
   rintro _ w6 _ _ _ ⟨rfl,rfl,rfl,rfl⟩ h19
   have h20:=h19 rfl rfl
   simp only [ca,na] at h20
   exact ⟨undef,rfl,trivial,h20⟩
  ·intro q1 w Γx Ωx h
   refine OpS.mv rfl rfl rfl ?_
   exact du h
  ·intro q1 w Γx Ωx h
   refine OpS.ext rfl rfl rfl rfl ?_
   exact du h
  ·intro q1 w Γx Ωx h
   refine OpS.ext rfl rfl rfl rfl ?_
   exact du h
  ·intro q1 w Γx Ωx h
   refine OpS.as rfl rfl rfl ?_
   exact du h
  have h21:=h
  refine ga rfl (nil (sr (gm rfl (op (OpS.not rfl rfl rfl ?_)))))
  refine gm rfl ?_
  refine RunL.join (σ:=Bool) (λ s_ L_ w_=>L_=[(0,v0),(1,v1),(2,v2),(3,.bool a3),(11,u2),(12,.int .i64 s1.1),(13,u7),(29,u1),(30,.int .i64 (a0.sensors.length:Int)),(31,.int .i64 s1.1),(56,.bool s_)]∧St e w_ [(false,.val (Rep.slice Sample_.rep) v1 a1),(false,.val (Rep.slice Entity_.rep) v2 a2),(false,.val (Rep.slice Sensor_.rep) u1 a0.sensors),GqC] [(false,.box 184 (monitor_Monitor.repW u3 u4) v0 s1.2.1),(false,.box 74 Sensor_.rep u7 x1),(true,.slice 55 Event_.rep u2 s1.2.2),(false,.slice 188 Filter_.rep u3 s1.2.1.filters),(false,.slice 49 (Rep.int .u16) u4 s1.2.1.states)]) hF (λ s2 _ w7 hI hF=>?_) (λ j1 hj1 hF=>?_)
  ·obtain ⟨rfl,h22⟩:=hI
   refine Run.ite rfl hF (λ e6 hF=>?_) (λ e6 hF=>?_)
   ·refine sr (gm rfl (op (OpS.nchk h22 .z rfl rfl rfl ?_)))
    refine op (OpS.fbox (o3:=2) h22 .z PA.z fa184_2 rfl rfl rfl rfl ?_)
    refine op (OpS.loadR h22 .z PA.a (GetS.ok (GetS.iso _ (GetS.there (GetS.there (GetS.here GetS.id))))) ty182 rfl rfl rfl rfl rfl ?_)
    refine gm rfl (op (OpS.build (f:=true) (x':=Filter_.z) h22 pl188 ti188 Filter_.zr rfl rfl rfl .nil (λ u8 h23=>?_)))
    obtain ⟨x2,e7,hF⟩:=bindP_use hF
    refine op (OpS.iown h23 (.s (.s (.s .z))) Tryz.underlying182 ty188 rfl rfl rfl rfl e7 ?_)
    obtain ⟨d1,e8,hF⟩:=letP_use hF
    refine op (OpS.storeO (f':=false) h23 (.s (.s (.s .z))) (idx_ne e7) PA.a (Put.of (Put.arr e7) e8) ty188 rfl rfl rfl (V.weak (V.at .z)) (.inr rfl) (λ w8 h24=>?_))
    refine nil (Run.exit rfl ?_)
    refine Run.reg (gb rfl (gm rfl (nil ?_)))
    have h25:=St.boxJ (r':=(monitor_Monitor.repW u3 u4)) (x':={ { s1.2.1 with filters:=d1 } with states:=s1.2.1.states }) (h24.pick (.s .z)) (λ _ _ hs_=>(Jn.iso _ (Jn.prod Jn.refl (Jn.prod Jn.refl (Jn.prod Jn.same (Jn.prod Jn.same Jn.refl))))))
    have h26:=St.boxJ (r':=(monitor_Monitor.repW u3 u4)) (x':={ { { { s1.2.1 with filters:=d1 } with states:=s1.2.1.states } with filters:=d1 } with states:=s1.2.1.states }) (h25.pick .z) (λ _ _ hs_=>(Jn.iso _ (Jn.prod Jn.refl (Jn.prod Jn.refl (Jn.prod Jn.same (Jn.prod Jn.same Jn.refl))))))
    refine Run.slim [(0,v0),(1,v1),(2,v2),(3,.bool a3),(11,u2),(29,u1),(30,.int .i64 (a0.sensors.length:Int)),(31,.int .i64 (IntKind.i64.wrap (s1.1+1)))] ⟨rfl,rfl,rfl,rfl,rfl,rfl,rfl,rfl,trivial⟩ ?_
    exact hk1 ((IntKind.i64.wrap (s1.1+1)),{ { { { s1.2.1 with filters:=d1 } with states:=s1.2.1.states } with filters:=d1 } with states:=s1.2.1.states },s1.2.2) _ _ ⟨u2,u3,u4,rfl,(h26.facts (.atm (.s .z) (.atm (.s (.s .z)) (.atm (.s (.s (.s .z))) (.atm (.s (.s (.s (.s .z)))) .nil))))).picks (.cons .z (.cons (.s (.s .z)) (.cons .z (.cons (.s .z) .nil))))⟩ hF
   refine Run.skip (sr (op (OpS.fbox (o3:=0) h22 (.s .z) PA.z fa74_0 rfl rfl rfl rfl ?_)))
   refine op (OpS.loadBi h22 (.s .z) PA.a (Get.fld Sensor_.f0) ty5 rfl rfl rfl ?_)
   refine op (OpS.build (f:=true) (x':=(⟨x1.Number,false,0,0⟩:Sample_)) h22 pl93 ti93 Sample_.zr rfl rfl rfl (.cons rfl Sample_.f0 rfl V.int .nil) (λ u9 h27=>?_))
   refine op (OpS.alloc h27 ti93 Sample_.zr rfl rfl (λ u10 w9 h28=>?_))
   refine op (OpS.storeB (f':=true) h28 .z PA.z Put.id ty93 rfl rfl rfl (V.at .z) (.inl rfl) (λ w10 h29=>?_))
   refine nil (Run.seq (sr (gm rfl (op (OpS.mkf (fl:=[]) (cl:=[u7]) rfl rfl rfl rfl ?_)))))
   obtain ⟨y3,e9,hF⟩:=bindP_use hF
   refine op (OpS.callP h29 Tryz.func79 rfl rfl rfl rfl (vs:=[v1,.func (.func 80) #[] #[u7]]) rfl (slices_IndexFunc_api_Sample_api_Sample_monitor_Monitor_Scan_1_ok e9) (.cons (f:=false) (V.at (.s .z)) (.box (.s (.s .z)) .nil)) ?_)
   rintro _ w11 _ _ _ ⟨rfl,rfl,rfl,rfl⟩ h30
   have h31:=h30 rfl rfl
   simp only [ca,na] at h31
   refine ga rfl (nil (sr (gm rfl (gb rfl (nil ?_)))))
   refine Run.join (σ:=Sample_) (λ s_ L_ w_=>L_=[(0,v0),(1,v1),(2,v2),(3,.bool a3),(11,u2),(12,.int .i64 s1.1),(13,u7),(16,u10),(29,u1),(30,.int .i64 (a0.sensors.length:Int)),(31,.int .i64 s1.1)]∧St e w_ [(false,.val (Rep.slice Sample_.rep) v1 a1),(false,.val (Rep.slice Entity_.rep) v2 a2),(false,.val (Rep.slice Sensor_.rep) u1 a0.sensors),GqC] [(false,.box 184 (monitor_Monitor.repW u3 u4) v0 s1.2.1),(false,.box 74 Sensor_.rep u7 x1),(false,.box 93 Sample_.rep u10 s_),(true,.slice 55 Event_.rep u2 s1.2.2),(false,.slice 188 Filter_.rep u3 s1.2.1.filters),(false,.slice 49 (Rep.int .u16) u4 s1.2.1.states)]) hF (λ s3 _ w12 hI hF=>?_) (λ j2 hj2 hF=>?_)
   ·obtain ⟨rfl,h32⟩:=hI
    refine sr (gm rfl (gm rfl (op (OpS.loadB h32 (.s (.s .z)) PA.z Get.id ty93 rfl rfl rfl (λ u11 h33=>?_)))))
    obtain ⟨y4,e10,hF⟩:=bindP_use hF
    have h34:=h33.front (.cons .z (.cons (.s (.s (.s .z))) (.cons (.s (.s (.s .z))) .nil)))
    refine op (OpS.callO h34 Tryz.func81 rfl rfl rfl rfl (vs:=[v0,.int .i64 s1.1,u11]) rfl (monitor_Monitor_step_ok e10) rfl (.cons (f:=false) (V.at .z) .nil) ?_)
    rintro _ w13 _ _ _ ⟨u12,u13,u14,rfl,rfl,rfl,rfl⟩ h35
    have h36:=h35
    simp only [ca,na] at h36
    refine gm rfl (op (OpS.ext rfl rfl rfl rfl ?_))
    refine op (OpS.ext rfl rfl rfl rfl ?_)
    refine ga rfl (ga rfl (nil (Run.reg (gm rfl (op (OpS.loadB h36 (.s (.s (.s .z))) PA.z Get.id ty74 rfl rfl rfl (λ u15 h37=>?_)))))))
    refine gm rfl (gm rfl ?_)
    obtain ⟨y5,e11,hF⟩:=bindP_use hF
    refine op (OpS.callP h37 Tryz.func82 rfl rfl rfl rfl (vs:=[u15,u12,.int .u8 y4.2.1]) rfl (monitor_events_ok e11) (.cons (f:=false) (V.at .z) (.cons (f:=true) (V.at (.s .z)) (.ptr (.s (.s (.s (.s (.s (.s .z)))))) .nil))) ?_)
    rintro u16 w14 _ _ _ ⟨_,rfl,rfl,rfl,rfl⟩ h38
    have h39:=h38 rfl rfl
    simp only [ca,na] at h39
    have h40:=(h39.pick .z).freeze
    obtain ⟨x3,e12,hF⟩:=bindP_use hF
    refine op (OpS.app (f':=true) h40 (.s (.s (.s (.s (.s .z))))) Tryz.underlying40 ti55 rfl rfl rfl rfl rfl rfl rfl (V.at .z) (.inr Event_.pure) e12 (λ u17 w15 h41=>?_))
    refine ga rfl (nil (Run.endBlock (Run.reg (gb rfl (gm rfl (nil (Run.slim [(0,v0),(1,v1),(2,v2),(3,.bool a3),(11,u17),(29,u1),(30,.int .i64 (a0.sensors.length:Int)),(31,.int .i64 (IntKind.i64.wrap (s1.1+1)))] ⟨rfl,rfl,rfl,rfl,rfl,rfl,rfl,rfl,trivial⟩ ?_)))))))
    exact hk1 ((IntKind.i64.wrap (s1.1+1)),y4.2.2,x3) _ _ ⟨u17,u13,u14,rfl,(h41.facts (.atm (.s (.s (.s (.s .z)))) (.atm (.s (.s (.s (.s (.s .z))))) (.atm (.s (.s (.s (.s (.s (.s .z)))))) (.atm (.s (.s (.s (.s (.s (.s (.s .z))))))) .nil))))).picks (.cons (.s .z) (.cons .z (.cons .z (.cons .z .nil))))⟩ hF
   refine Run.ite rfl hF (λ e13 hF=>?_) (λ e13 hF=>?_)
   ·refine Run.reg (gm rfl (gm rfl ?_))
    obtain ⟨x4,e14,hF⟩:=bindP_use hF
    refine op (OpS.iptr h31 Tryz.underlying41 ty93 rfl rfl rfl rfl (V.at (.s .z)) e14 (λ u18 h42=>?_))
    refine op (OpS.load h42 ty93 rfl rfl rfl .z (λ u19 h43=>?_))
    have h44:=(h43.pick .z).weak
    refine op (OpS.storeB (f':=false) h44 .z PA.z Put.id ty93 rfl rfl rfl (V.at .z) (.inr rfl) (λ w16 h45=>?_))
    refine nil (Run.slim [(0,v0),(1,v1),(2,v2),(3,.bool a3),(11,u2),(12,.int .i64 s1.1),(13,u7),(16,u10),(29,u1),(30,.int .i64 (a0.sensors.length:Int)),(31,.int .i64 s1.1)] ⟨rfl,rfl,rfl,rfl,rfl,rfl,rfl,rfl,rfl,rfl,rfl,trivial⟩ ?_)
    exact hj2 (x4) _ _ ⟨rfl,(h45.facts (.atm (.s (.s (.s .z))) (.atm (.s (.s (.s (.s .z)))) (.atm (.s (.s (.s (.s (.s .z))))) (.atm (.s (.s (.s (.s (.s (.s .z)))))) .nil))))).picks (.cons (.s .z) (.cons (.s .z) (.cons .z (.cons .z (.cons .z (.cons .z .nil))))))⟩ hF
   refine Run.skip ?_
   have h46:=(h31.pick .z).weak
   refine Run.slim [(0,v0),(1,v1),(2,v2),(3,.bool a3),(11,u2),(12,.int .i64 s1.1),(13,u7),(16,u10),(29,u1),(30,.int .i64 (a0.sensors.length:Int)),(31,.int .i64 s1.1)] ⟨rfl,rfl,rfl,rfl,rfl,rfl,rfl,rfl,rfl,rfl,rfl,trivial⟩ ?_
   exact hj2 ((⟨x1.Number,false,0,0⟩:Sample_)) _ _ ⟨rfl,(h46.facts (.atm (.s .z) (.atm (.s (.s .z)) (.atm (.s (.s (.s .z))) (.atm (.s (.s (.s (.s .z)))) .nil))))).picks (.cons (.s .z) (.cons (.s .z) (.cons .z (.cons .z (.cons .z (.cons .z .nil))))))⟩ hF
  refine RunL.caseb hF (λ e15 hF=>?_) (λ e15 hF=>?_)
  ·refine gp rfl (gp rfl (gp rfl (gp rfl (gp rfl (gp rfl (gk rfl (nil (Run.slim [(0,v0),(1,v1),(2,v2),(3,.bool a3),(11,u2),(12,.int .i64 s1.1),(13,u7),(29,u1),(30,.int .i64 (a0.sensors.length:Int)),(31,.int .i64 s1.1),(56,.bool true)] ⟨rfl,rfl,rfl,rfl,rfl,rfl,rfl,rfl,rfl,rfl,rfl,trivial⟩ ?_))))))))
   exact hj1 (true) _ _ ⟨rfl,(h21.facts (.atm (.s (.s (.s (.s .z)))) (.atm (.s (.s (.s (.s (.s .z))))) (.atm (.s (.s (.s (.s (.s (.s .z)))))) (.atm (.s (.s (.s (.s (.s (.s (.s .z))))))) .nil))))).picks (.cons (.s .z) (.cons .z (.cons .z (.cons .z (.cons .z .nil)))))⟩ hF
  refine op (OpS.fbox (o3:=26) h21 .z PA.z fa74_13 rfl rfl rfl rfl ?_)
  refine op (OpS.loadBb h21 .z PA.a (Get.fld Sensor_.f13) ty4 rfl rfl rfl ?_)
  refine gm rfl ?_
  refine RunL.caseb hF (λ e16 hF=>?_) (λ e16 hF=>?_)
  ·refine gm rfl (op (OpS.not rfl rfl rfl ?_))
   refine gk rfl (gk rfl (nil (Run.slim [(0,v0),(1,v1),(2,v2),(3,.bool a3),(11,u2),(12,.int .i64 s1.1),(13,u7),(29,u1),(30,.int .i64 (a0.sensors.length:Int)),(31,.int .i64 s1.1),(56,.bool (!a3))] ⟨rfl,rfl,rfl,rfl,rfl,rfl,rfl,rfl,rfl,rfl,rfl,trivial⟩ ?_)))
   exact hj1 (!a3) _ _ ⟨rfl,(h21.facts (.atm (.s (.s (.s (.s .z)))) (.atm (.s (.s (.s (.s (.s .z))))) (.atm (.s (.s (.s (.s (.s (.s .z)))))) (.atm (.s (.s (.s (.s (.s (.s (.s .z))))))) .nil))))).picks (.cons (.s .z) (.cons .z (.cons .z (.cons .z (.cons .z .nil)))))⟩ hF
  refine gp rfl (gp rfl (gk rfl (gk rfl (nil (Run.slim [(0,v0),(1,v1),(2,v2),(3,.bool a3),(11,u2),(12,.int .i64 s1.1),(13,u7),(29,u1),(30,.int .i64 (a0.sensors.length:Int)),(31,.int .i64 s1.1),(56,.bool false)] ⟨rfl,rfl,rfl,rfl,rfl,rfl,rfl,rfl,rfl,rfl,rfl,trivial⟩ ?_)))))
  exact hj1 (false) _ _ ⟨rfl,(h21.facts (.atm (.s (.s (.s (.s .z)))) (.atm (.s (.s (.s (.s (.s .z))))) (.atm (.s (.s (.s (.s (.s (.s .z)))))) (.atm (.s (.s (.s (.s (.s (.s (.s .z))))))) .nil))))).picks (.cons (.s .z) (.cons .z (.cons .z (.cons .z (.cons .z .nil)))))⟩ hF
 refine Run.exit rfl ?_
 refine sr (gm rfl (ga rfl (ga rfl (nil (Run.retP rfl (.tmp rfl (.tmp rfl .nil)) ?_)))))
 cases hF
 exact Post.mk' ⟨u2,u3,u4,rfl,rfl,rfl,rfl⟩ (h7.picks (.cons (.s .z) (.cons .z (.cons .z (.cons .z .nil))))) .nil
theorem flash_Device_Down_ok {fuel:Nat} {a0:flash_Device} {y:Bool} (hF:flash_Device_Down fuel a0=some y) {w:World} {v0 v0_0 v0_1:Value} :
  Spec Tryz.prog 155 [v0].toArray w [] [(false,.box 166 (flash_Device.repW v0_0 v0_1) v0 a0),(false,.slice 5 (Rep.int .u8) v0_0 a0.bytes),(false,.slice 3 (Rep.int .i64) v0_1 a0.wear)] (λ v Γr Ωr Ωo=>v=.bool y∧Γr=[]∧Ωr=[]∧Ωo=[(false,.box 166 (flash_Device.repW v0_0 v0_1) v0 a0),(false,(.slice 5 (Rep.int .u8) v0_0 a0.bytes)),(false,(.slice 3 (Rep.int .i64) v0_1 a0.wear))]):=by
 refine Spec.of (L:=[(0,v0)]) Tryz.func155 rfl ⟨rfl,trivial⟩ rfl (λ e h=>?_)
 unfold flash_Device_Down at hF
 refine sr (ga rfl (nil (sr (gm rfl (op (OpS.nchk h .z rfl rfl rfl ?_))))))
 refine op (OpS.fbox (o3:=6) h .z PA.z fa166_6 rfl rfl rfl rfl ?_)
 refine op (OpS.loadBb h .z PA.a (GetS.ok (GetS.iso _ (GetS.there (GetS.there (GetS.there (GetS.there (GetS.there (GetS.there (GetS.here GetS.id))))))))) ty4 rfl rfl rfl ?_)
 refine ga rfl (nil (Run.retP rfl (.tmp rfl .nil) ?_))
 cases hF
 exact Post.mk' ⟨rfl,rfl,rfl,rfl⟩ (h.picks (.cons .z (.cons .z (.cons .z .nil)))) .nil
theorem eventlog_Log_down_ok {fuel:Nat} {a0:eventlog_Log} {ad:flash_Device} {y:Bool×eventlog_Log×flash_Device} (hF:eventlog_Log_down fuel a0 ad=some y) {w:World} {v0 v0_0 qd v0_1 vd_0 vd_1:Value} :
  Spec Tryz.prog 83 [v0].toArray w [] [(false,.box 169 (eventlog_Log.repW v0_0 v0_1) v0 a0),(false,.lnk qd v0_0 a0.d),(false,.slice 200 eventlog_record.rep v0_1 a0.records),(false,.box 166 (flash_Device.repW vd_0 vd_1) qd ad),(false,.slice 5 (Rep.int .u8) vd_0 ad.bytes),(false,.slice 3 (Rep.int .i64) vd_1 ad.wear)] (λ v Γr Ωr Ωo=>∃ w0_0 w0_1 wd_0 wd_1:Value,v=.bool y.1∧Γr=[]∧Ωr=[]∧Ωo=[(false,.box 169 (eventlog_Log.repW w0_0 w0_1) v0 y.2.1),(false,.lnk qd w0_0 y.2.1.d),(false,(.slice 200 eventlog_record.rep w0_1 y.2.1.records)),(false,.box 166 (flash_Device.repW wd_0 wd_1) qd y.2.2),(false,(.slice 5 (Rep.int .u8) wd_0 y.2.2.bytes)),(false,(.slice 3 (Rep.int .i64) wd_1 y.2.2.wear))]):=by
 refine Spec.of (L:=[(0,v0)]) Tryz.func83 rfl ⟨rfl,trivial⟩ rfl (λ e h=>?_)
 unfold eventlog_Log_down at hF
 refine sr (ga rfl (nil (Run.seq (sr (gm rfl (op (OpS.nchk h .z rfl rfl rfl ?_)))))))
 refine op (OpS.fbox (o3:=12) h .z PA.z fa169_12 rfl rfl rfl rfl ?_)
 refine op (OpS.loadBb h .z PA.a (GetS.ok (GetS.iso _ (GetS.there (GetS.there (GetS.there (GetS.there (GetS.there (GetS.there (GetS.there (GetS.there (GetS.there (GetS.there (GetS.there (GetS.there (GetS.here GetS.id))))))))))))))) ty4 rfl rfl rfl ?_)
 refine gm rfl ?_
 refine RunL.caseb hF (λ e1 hF=>?_) (λ e1 hF=>?_)
 ·cases hF
 refine gm rfl (op (OpS.nchk h .z rfl rfl rfl ?_))
 refine op (OpS.fbox (o3:=0) h .z PA.z fa169_0 rfl rfl rfl rfl ?_)
 obtain ⟨e2,hF⟩:=chk_use hF
 obtain ⟨e3,h1⟩:=St.attach (h.pick (.s .z)) e2
 subst e3
 refine op (OpS.loadR h1 (.s .z) PA.a (GetS.ok (GetS.iso _ (GetS.here GetS.id))) ty31 rfl rfl rfl rfl rfl ?_)
 obtain ⟨y1,e4,hF⟩:=bindP_use hF
 have h2:=h1.front (.cons (.s (.s (.s .z))) (.cons (.s (.s (.s .z))) (.cons (.s (.s (.s .z))) .nil)))
 refine op (OpS.callO h2 Tryz.func155 rfl rfl rfl rfl (vs:=[qd]) rfl (flash_Device_Down_ok e4) rfl .nil ?_)
 rintro _ w1 _ _ _ ⟨rfl,rfl,rfl,rfl⟩ h3
 have h4:=h3
 simp only [ca,na] at h4
 refine gk rfl (nil ?_)
 refine Run.ite rfl hF (λ e5 hF=>?_) (λ e5 hF=>?_)
 ·cases hF
 refine Run.skip (sr (gm rfl (op (OpS.nchk h4 (.s (.s (.s (.s .z)))) rfl rfl rfl ?_))))
 refine op (OpS.fbox (o3:=12) h4 (.s (.s (.s (.s .z)))) PA.z fa169_12 rfl rfl rfl rfl ?_)
 refine op (OpS.loadBb h4 (.s (.s (.s (.s .z)))) PA.a (GetS.ok (GetS.iso _ (GetS.there (GetS.there (GetS.there (GetS.there (GetS.there (GetS.there (GetS.there (GetS.there (GetS.there (GetS.there (GetS.there (GetS.there (GetS.here GetS.id))))))))))))))) ty4 rfl rfl rfl ?_)
 refine ga rfl (nil (Run.retP rfl (.tmp rfl .nil) ?_))
 cases hF
 exact Post.mk' ⟨qd,v0_1,vd_0,vd_1,rfl,rfl,rfl,rfl⟩ (h4.picks (.cons (.s (.s (.s (.s .z)))) (.cons (.s (.s (.s .z))) (.cons (.s (.s (.s .z))) (.cons .z (.cons .z (.cons .z .nil))))))) .nil
theorem flash_Device_step_ok {fuel:Nat} {a0:flash_Device} {y:Bool×flash_Device} (hF:flash_Device_step fuel a0=some y) {w:World} {v0 v0_0 v0_1:Value} :
  Spec Tryz.prog 157 [v0].toArray w [] [(false,.box 166 (flash_Device.repW v0_0 v0_1) v0 a0),(false,.slice 5 (Rep.int .u8) v0_0 a0.bytes),(false,.slice 3 (Rep.int .i64) v0_1 a0.wear)] (λ v Γr Ωr Ωo=>∃ w0_0 w0_1:Value,v=.bool y.1∧Γr=[]∧Ωr=[]∧Ωo=[(false,.box 166 (flash_Device.repW w0_0 w0_1) v0 y.2),(false,(.slice 5 (Rep.int .u8) w0_0 y.2.bytes)),(false,(.slice 3 (Rep.int .i64) w0_1 y.2.wear))]):=by
 refine Spec.of (L:=[(0,v0)]) Tryz.func157 rfl ⟨rfl,trivial⟩ rfl (λ e h=>?_)
 unfold flash_Device_step at hF
 refine sr (ga rfl (nil (sr (gm rfl (op (OpS.nchk h .z rfl rfl rfl ?_))))))
 refine op (OpS.fbox (o3:=3) h .z PA.z fa166_3 rfl rfl rfl rfl ?_)
 refine op (OpS.loadBi h .z PA.a (GetS.ok (GetS.iso _ (GetS.there (GetS.there (GetS.there (GetS.here GetS.id)))))) ty3 rfl rfl rfl ?_)
 refine gb rfl (op (OpS.nchk h .z rfl rfl rfl ?_))
 refine op (OpS.fbox (o3:=3) h .z PA.z fa166_3 rfl rfl rfl rfl ?_)
 obtain ⟨d1,e1,hF⟩:=letP_use hF
 refine op (OpS.storeC (f':=true) (fr:=(Rep.int .i64)) (r':=(flash_Device.repW v0_0 v0_1)) (x':=d1) h .z PA.a (Chg.of (x':={ a0 with steps:=(IntKind.i64.wrap (a0.steps+1)) }) (Chg.iso _ (Chg.there (Chg.there (Chg.there (Chg.here (Chg.id (by rfl))))))) e1) ty3 rfl rfl rfl V.int (.inr rfl) (λ w1 h1=>?_))
 refine nil (Run.seq (sr (gm rfl (op (OpS.nchk h1 .z rfl rfl rfl ?_)))))
 refine op (OpS.fbox (o3:=4) h1 .z PA.z fa166_4 rfl rfl rfl rfl ?_)
 refine op (OpS.loadBi h1 .z PA.a (GetS.ok (GetS.iso _ (GetS.there (GetS.there (GetS.there (GetS.there (GetS.here GetS.id))))))) ty3 rfl rfl rfl ?_)
 refine gb rfl (nil ?_)
 refine Run.ite rfl hF (λ e2 hF=>?_) (λ e2 hF=>?_)
 ·cases hF
 refine Run.skip (sr (gm rfl (op (OpS.nchk h1 .z rfl rfl rfl ?_))))
 refine op (OpS.fbox (o3:=6) h1 .z PA.z fa166_6 rfl rfl rfl rfl ?_)
 refine op (OpS.loadBb h1 .z PA.a (GetS.ok (GetS.iso _ (GetS.there (GetS.there (GetS.there (GetS.there (GetS.there (GetS.there (GetS.here GetS.id))))))))) ty4 rfl rfl rfl ?_)
 refine ga rfl (nil ?_)
 have h2:=St.boxJ (r':=(flash_Device.repW v0_0 v0_1)) (x':={ { d1 with bytes:=a0.bytes } with wear:=a0.wear }) (h1.pick .z) (λ _ _ hs_=>(Jn.iso _ (Jn.prod Jn.refl (Jn.prod Jn.same (Jn.prod Jn.same Jn.refl)))))
 refine Run.retP rfl (.tmp rfl .nil) ?_
 cases hF
 exact Post.mk' ⟨v0_0,v0_1,rfl,rfl,rfl,rfl⟩ (h2.picks (.cons .z (.cons .z (.cons .z .nil)))) .nil
theorem eventlog_write4_ok {fuel:Nat} {a0:Int} {y:(List Int)} (hF:eventlog_write4 fuel a0=some y) {w:World} :
  Spec Tryz.prog 208 [.int .i64 a0].toArray w [] [] (λ v Γr Ωr Ωo=>∃ u0:Value,v=u0∧Γr=[]∧Ωr=[(true,(.slice 5 (Rep.int .u8) u0 y))]∧Ωo=[]):=by
 refine Spec.of (L:=[(0,.int .i64 a0)]) Tryz.func208 rfl ⟨rfl,trivial⟩ rfl (λ e h=>?_)
 unfold eventlog_write4 at hF
 refine sr (ga rfl (nil (sr (gm rfl (op (OpS.conv Tryz.underlying3 Tryz.underlying5 rfl rfl rfl ?_))))))
 refine gm rfl (op (OpS.shr rfl rfl rfl rfl (by decide) ?_))
 refine op (OpS.conv Tryz.underlying3 Tryz.underlying5 rfl rfl rfl ?_)
 refine gm rfl (op (OpS.shr rfl rfl rfl rfl (by decide) ?_))
 refine op (OpS.conv Tryz.underlying3 Tryz.underlying5 rfl rfl rfl ?_)
 refine gm rfl (op (OpS.shr rfl rfl rfl rfl (by decide) ?_))
 refine op (OpS.conv Tryz.underlying3 Tryz.underlying5 rfl rfl rfl ?_)
 refine op (OpS.litO (r:=(Rep.int .u8)) (f:=true) h Tryz.underlying24 ti5 rfl rfl rfl rfl rfl (.cons rfl V.int (.cons rfl V.int (.cons rfl V.int (.cons rfl V.int .nil)))) rfl rfl (λ u1 w1 h1=>?_))
 refine ga rfl (nil (Run.retP rfl (.tmp rfl .nil) ?_))
 cases hF
 exact Post.mk' ⟨u1,rfl,rfl,rfl,rfl⟩ (h1.picks (.cons .z .nil)) .nil
theorem flash_Device_Program_ok {fuel:Nat} {a0:flash_Device} {a1:Int} {a2:List Int} {y:Int×flash_Device} (hF:flash_Device_Program fuel a0 a1 a2=some y) {w:World} {v0 v0_0 v0_1 v2:Value} :
  Spec Tryz.prog 88 [v0,.int .i64 a1,v2].toArray w [(false,.val (Rep.slice (Rep.int .u8)) v2 a2)] [(false,.box 166 (flash_Device.repW v0_0 v0_1) v0 a0),(false,.slice 5 (Rep.int .u8) v0_0 a0.bytes),(false,.slice 3 (Rep.int .i64) v0_1 a0.wear)] (λ v Γr Ωr Ωo=>∃ w0_0 w0_1:Value,v=.int .i64 y.1∧Γr=[]∧Ωr=[]∧Ωo=[(false,.box 166 (flash_Device.repW w0_0 w0_1) v0 y.2),(false,(.slice 5 (Rep.int .u8) w0_0 y.2.bytes)),(false,(.slice 3 (Rep.int .i64) w0_1 y.2.wear))]):=by
 refine Spec.of (L:=[(0,v0),(1,.int .i64 a1),(2,v2)]) Tryz.func88 rfl ⟨rfl,rfl,rfl,trivial⟩ rfl (λ e h=>?_)
 unfold flash_Device_Program at hF
 refine sr (ga rfl (nil (Run.seq (Run.block (sr (gm rfl (op (OpS.nchk h .z rfl rfl rfl ?_))))))))
 refine op (OpS.fbox (o3:=6) h .z PA.z fa166_6 rfl rfl rfl rfl ?_)
 refine op (OpS.loadBb h .z PA.a (GetS.ok (GetS.iso _ (GetS.there (GetS.there (GetS.there (GetS.there (GetS.there (GetS.there (GetS.here GetS.id))))))))) ty4 rfl rfl rfl ?_)
 refine ga rfl (nil ?_)
 refine Run.ite rfl hF (λ e1 hF=>?_) (λ e1 hF=>?_)
 ·cases hF
 refine sr (gm rfl (gm rfl (gm rfl (op (OpS.len h Tryz.underlying24 rfl rfl rfl (V.at .z) ?_)))))
 obtain ⟨y1,e2,hF⟩:=bindP_use hF
 have h1:=h.front (.cons .z (.cons .z (.cons .z .nil)))
 refine op (OpS.callO h1 Tryz.func144 rfl rfl rfl rfl (vs:=[v0,.int .i64 a1,.int .i64 (a2.length:Int)]) rfl (flash_Device_within_ok e2) rfl .nil ?_)
 rintro _ w1 _ _ _ ⟨rfl,rfl,rfl,rfl⟩ h2
 have h3:=h2
 simp only [ca,na] at h3
 refine op (OpS.not rfl rfl rfl ?_)
 refine ga rfl ?_
 obtain ⟨x1,e3,hF⟩:=letP_use hF
 refine RunL.nameb e3 ?_
 refine nil ?_
 refine Run.ite rfl hF (λ e4 hF=>?_) (λ e4 hF=>?_)
 ·cases hF
 refine Run.skip (Run.endBlock (Run.seq (sr (gm rfl (op (OpS.len h3 Tryz.underlying24 rfl rfl rfl (V.at .z) ?_))))))
 refine gm rfl (nil (Run.block (Run.slim [(0,v0),(1,.int .i64 a1),(21,v2),(22,.int .i64 (a2.length:Int)),(23,.int .i64 0)] ⟨rfl,rfl,rfl,rfl,rfl,trivial⟩ ?_)))
 refine Run.loopP (σ:=(Int×flash_Device)) (λ s_ L_ w_=>∃ u0_ u1_:Value,L_=[(0,v0),(1,.int .i64 a1),(21,v2),(22,.int .i64 (a2.length:Int)),(23,.int .i64 s_.1)]∧St e w_ [(false,.val (Rep.slice (Rep.int .u8)) v2 a2)] [(false,.box 166 (flash_Device.repW u0_ u1_) v0 s_.2),(false,.slice 5 (Rep.int .u8) u0_ s_.2.bytes),(false,.slice 3 (Rep.int .i64) u1_ s_.2.wear)]) hF ⟨v0_0,v0_1,rfl,(h3.facts (.atm .z .nil)).picks (.cons .z (.cons .z (.cons .z .nil)))⟩ (λ k1 hk1 s1 _ w2 hI hF=>?_)
 obtain ⟨u1,u2,rfl,h4⟩:=hI
 refine sr (gb rfl (nil (Run.seq ?_)))
 refine Run.ite rfl hF (λ e5 hF=>?_) (λ e5 hF=>?_)
 ·refine Run.skip (Run.seq (Run.block (sr (gm rfl ?_))))
  obtain ⟨x2,e6,hF⟩:=bindP_use hF
  refine op (OpS.iptr h4 Tryz.underlying24 ty5 rfl rfl rfl rfl (V.at .z) e6 (λ u3 h5=>?_))
  refine op (OpS.loadi h5 ty5 rfl rfl rfl .z ?_)
  refine ga rfl (ga rfl (nil (Run.seq (sr (gm rfl ?_)))))
  obtain ⟨y2,e7,hF⟩:=bindP_use hF
  have h6:=h5.front (.cons .z (.cons .z (.cons .z .nil)))
  refine op (OpS.callO h6 Tryz.func157 rfl rfl rfl rfl (vs:=[v0]) rfl (flash_Device_step_ok e7) rfl .nil ?_)
  rintro _ w3 _ _ _ ⟨u4,u5,rfl,rfl,rfl,rfl⟩ h7
  have h8:=h7
  simp only [ca,na] at h8
  refine nil ?_
  refine Run.ite rfl hF (λ e8 hF=>?_) (λ e8 hF=>?_)
  ·cases hF
  refine Run.skip (Run.reg (gm rfl (op (OpS.nchk h8 .z rfl rfl rfl ?_))))
  refine op (OpS.fbox (o3:=1) h8 .z PA.z fa166_1 rfl rfl rfl rfl ?_)
  refine op (OpS.loadR h8 .z PA.a (GetS.ok (GetS.iso _ (GetS.there (GetS.here GetS.id)))) ty24 rfl rfl rfl rfl rfl ?_)
  refine gm rfl (gm rfl (gb rfl ?_))
  obtain ⟨x3,e9,hF⟩:=bindP_use hF
  refine op (OpS.iown h8 (.s .z) Tryz.underlying24 ty5 rfl rfl rfl rfl e9 ?_)
  refine op (OpS.loadOi h8 (.s .z) (idx_ne e9) PA.a (Get.arr e9) ty5 rfl rfl rfl ?_)
  refine gm rfl (gb rfl (op (OpS.iown h8 (.s .z) Tryz.underlying24 ty5 rfl rfl rfl rfl e9 ?_)))
  obtain ⟨d1,e10,hF⟩:=letP_use hF
  refine op (OpS.storeO (f':=true) h8 (.s .z) (idx_ne e9) PA.a (Put.of (Put.arr e9) e10) ty5 rfl rfl rfl V.int (.inr rfl) (λ w4 h9=>?_))
  refine nil (Run.endBlock (Run.reg (gb rfl (gm rfl (nil ?_)))))
  have h10:=St.boxJ (r':=(flash_Device.repW u4 u5)) (x':={ { y2.2 with bytes:=d1 } with wear:=y2.2.wear }) (h9.pick (.s .z)) (λ _ _ hs_=>(Jn.iso _ (Jn.prod Jn.refl (Jn.prod Jn.same (Jn.prod Jn.same Jn.refl)))))
  have h11:=St.boxJ (r':=(flash_Device.repW u4 u5)) (x':={ { { { y2.2 with bytes:=d1 } with wear:=y2.2.wear } with bytes:=d1 } with wear:=y2.2.wear }) (h10.pick .z) (λ _ _ hs_=>(Jn.iso _ (Jn.prod Jn.refl (Jn.prod Jn.same (Jn.prod Jn.same Jn.refl)))))
  refine Run.slim [(0,v0),(1,.int .i64 a1),(21,v2),(22,.int .i64 (a2.length:Int)),(23,.int .i64 (IntKind.i64.wrap (s1.1+1)))] ⟨rfl,rfl,rfl,rfl,rfl,trivial⟩ ?_
  exact hk1 ((IntKind.i64.wrap (s1.1+1)),{ { { { y2.2 with bytes:=d1 } with wear:=y2.2.wear } with bytes:=d1 } with wear:=y2.2.wear }) _ _ ⟨u4,u5,rfl,(h11.facts (.atm (.s .z) .nil)).picks (.cons .z (.cons .z (.cons .z .nil)))⟩ hF
 refine Run.exit rfl ?_
 refine sr (ga rfl (nil (Run.retP rfl (.tmp rfl .nil) ?_)))
 cases hF
 exact Post.mk' ⟨u1,u2,rfl,rfl,rfl,rfl⟩ (h4.picks (.cons .z (.cons .z (.cons .z .nil)))) .nil
theorem slices_IndexFunc_eventlog_record_eventlog_record_eventlog_Log_open_1_ok {fuel:Nat} {a0:List eventlog_record} {a1_0:Int} {y:Int} (hF:slices_IndexFunc_eventlog_record_eventlog_record_eventlog_Log_open_1 fuel a0 a1_0=some y) {w:World} {v0 v1_0:Value} :
  Spec Tryz.prog 241 [v0,.func (.func 210) #[] #[v1_0]].toArray w [(false,.val (Rep.slice eventlog_record.rep) v0 a0),(false,.ptr (Rep.int .i64) v1_0 a1_0)] [] (λ v Γr Ωr Ωo=>v=.int .i64 y∧Γr=[]∧Ωr=[]∧Ωo=[]):=by
 refine Spec.of (L:=[(0,v0),(1,.func (.func 210) #[] #[v1_0])]) Tryz.func241 rfl ⟨rfl,rfl,trivial⟩ rfl (λ e h=>?_)
 unfold slices_IndexFunc_eventlog_record_eventlog_record_eventlog_Log_open_1 at hF
 refine sr (ga rfl (nil (Run.seq (sr (gm rfl (op (OpS.len h Tryz.underlying167 rfl rfl rfl (V.at .z) ?_)))))))
 refine gm rfl (nil (Run.block (Run.slim [(0,v0),(1,.func (.func 210) #[] #[v1_0]),(7,.int .i64 (a0.length:Int)),(8,.int .i64 0)] ⟨rfl,rfl,rfl,rfl,trivial⟩ ?_)))
 refine Run.loopP (σ:=Unit) (λ s_ L_ w_=>L_=[(0,v0),(1,.func (.func 210) #[] #[v1_0]),(7,.int .i64 (a0.length:Int)),(8,.int .i64 0)]∧St e w_ [(false,.val (Rep.slice eventlog_record.rep) v0 a0),(false,.ptr (Rep.int .i64) v1_0 a1_0)] []) hF ⟨rfl,(h.facts (.atm .z (.atm (.s .z) .nil))).picks .nil⟩ (λ k1 hk1 s1 _ w1 hI hF=>?_)
 obtain ⟨rfl,h1⟩:=hI
 refine sr (gb rfl (nil (Run.seq ?_)))
 refine Run.ite rfl hF (λ e1 hF=>?_) (λ e1 hF=>?_)
 ·cases hF
 refine Run.exit rfl ?_
 refine sr (ga rfl (nil (Run.retP rfl (.tmp rfl .nil) ?_)))
 cases hF
 exact Post.mk' ⟨rfl,rfl,rfl,rfl⟩ (h1.picks .nil) .nil
theorem slices_DeleteFunc_eventlog_record_eventlog_record_eventlog_Log_open_1_ok {fuel:Nat} {a0:List eventlog_record} {a1_0:Int} {y:(List eventlog_record)} (hF:slices_DeleteFunc_eventlog_record_eventlog_record_eventlog_Log_open_1 fuel a0 a1_0=some y) {w:World} {v0 v1_0:Value} :
  Spec Tryz.prog 209 [v0,.func (.func 210) #[] #[v1_0]].toArray w [(false,.ptr (Rep.int .i64) v1_0 a1_0)] [(false,.slice 200 eventlog_record.rep v0 a0)] (λ v Γr Ωr Ωo=>∃ u0:Value,v=u0∧Γr=[]∧Ωr=[(false,(.slice 200 eventlog_record.rep u0 y))]∧Ωo=[]):=by
 refine Spec.of (L:=[(0,v0),(1,.func (.func 210) #[] #[v1_0])]) Tryz.func209 rfl ⟨rfl,rfl,trivial⟩ rfl (λ e h=>?_)
 unfold slices_DeleteFunc_eventlog_record_eventlog_record_eventlog_Log_open_1 at hF
 refine sr (ga rfl (nil (sr (gm rfl (gm rfl ?_)))))
 obtain ⟨y1,e1,hF⟩:=bindP_use hF
 refine op (OpS.callP h Tryz.func241 rfl rfl rfl rfl (vs:=[v0,.func (.func 210) #[] #[v1_0]]) rfl (slices_IndexFunc_eventlog_record_eventlog_record_eventlog_Log_open_1_ok e1) (.own .z (.ptr .z .nil)) ?_)
 rintro _ w1 _ _ _ ⟨rfl,rfl,rfl,rfl⟩ h1
 have h2:=h1 rfl rfl
 simp only [ca,na] at h2
 refine ga rfl (nil (Run.seq (sr (gm rfl (gb rfl (nil ?_))))))
 refine Run.ite rfl hF (λ e2 hF=>?_) (λ e2 hF=>?_)
 ·refine sr (gm rfl (ga rfl (nil (Run.retP rfl (.tmp rfl .nil) ?_))))
  cases hF
  exact Post.mk' ⟨v0,rfl,rfl,rfl,rfl⟩ (h2.picks (.cons .z .nil)) .nil
 cases hF
set_option maxHeartbeats 8000000 in set_option maxRecDepth 20000 in
theorem eventlog_Log_open_ok {fuel:Nat} {a0:eventlog_Log} {a1:Int} {ad:flash_Device} {y:Int×eventlog_Log×flash_Device} (hF:eventlog_Log_open fuel a0 a1 ad=some y) {w:World} {v0 v0_0 qd v0_1 vd_0 vd_1:Value} :
  Spec Tryz.prog 156 [v0,.int .i64 a1].toArray w [] [(false,.box 169 (eventlog_Log.repW v0_0 v0_1) v0 a0),(false,.lnk qd v0_0 a0.d),(false,.slice 200 eventlog_record.rep v0_1 a0.records),(false,.box 166 (flash_Device.repW vd_0 vd_1) qd ad),(false,.slice 5 (Rep.int .u8) vd_0 ad.bytes),(false,.slice 3 (Rep.int .i64) vd_1 ad.wear)] (λ v Γr Ωr Ωo=>∃ w0_0 w0_1 wd_0 wd_1:Value,v=.int .i64 y.1∧Γr=[]∧Ωr=[]∧Ωo=[(false,.box 169 (eventlog_Log.repW w0_0 w0_1) v0 y.2.1),(false,.lnk qd w0_0 y.2.1.d),(false,(.slice 200 eventlog_record.rep w0_1 y.2.1.records)),(false,.box 166 (flash_Device.repW wd_0 wd_1) qd y.2.2),(false,(.slice 5 (Rep.int .u8) wd_0 y.2.2.bytes)),(false,(.slice 3 (Rep.int .i64) wd_1 y.2.2.wear))]):=by
 refine Spec.of (L:=[(0,v0),(1,.int .i64 a1)]) Tryz.func156 rfl ⟨rfl,rfl,trivial⟩ rfl (λ e h=>?_)
 unfold eventlog_Log_open at hF
 refine sr (op (OpS.box (f':=true) h rfl rfl rfl V.int (λ u1 w1 h1=>?_)))
 refine ga rfl (nil (sr (gm rfl (op (OpS.nchk h1 (.s .z) rfl rfl rfl ?_)))))
 refine op (OpS.fbox (o3:=4) h1 (.s .z) PA.z fa169_4 rfl rfl rfl rfl ?_)
 refine op (OpS.loadBi h1 (.s .z) PA.a (GetS.ok (GetS.iso _ (GetS.there (GetS.there (GetS.there (GetS.there (GetS.here GetS.id))))))) ty3 rfl rfl rfl ?_)
 refine gb rfl (ga rfl ?_)
 obtain ⟨x1,e1,hF⟩:=letP_use hF
 refine RunL.name e1 ?_
 refine nil (Run.seq (sr (gm rfl (gb rfl (nil ?_)))))
 refine Run.ite rfl hF (λ e2 hF=>?_) (λ e2 hF=>?_)
 ·cases hF
 refine Run.skip (Run.seq ?_)
 have h2:=h1.picks (.cons (.s .z) (.cons .z (.cons .z (.cons .z (.cons .z (.cons .z (.cons .z .nil)))))))
 obtain ⟨e3,hF⟩:=chk_use hF
 refine Run.drawV (Ωs:=[(true,.box 3 (Rep.int .i64) u1 a1),(false,.lnk qd v0_0 a0.d),(false,.slice 200 eventlog_record.rep v0_1 a0.records),(false,.box 166 (flash_Device.repW vd_0 vd_1) qd ad),(false,.slice 5 (Rep.int .u8) vd_0 ad.bytes),(false,.slice 3 (Rep.int .i64) vd_1 ad.wear)]) [.k 17 v0,.kr 18 v0 [0],.kr 19 (padd v0 1) [0],.kr 20 (.int .i64 a0.first) [0],.k 21 (.int .i64 x1),.k 22 (.int .i64 (IntKind.i64.wrap (x1-1))),.k 23 v0,.kr 24 v0 [0],.kr 25 (padd v0 2) [0],.kr 26 (.int .i64 a0.sectors) [0],.k 27 (.int .i64 (Int.tmod (IntKind.i64.wrap (x1-1)) a0.sectors))] [[],[0],[1],[2],[],[4],[],[6],[7],[8],[5,9]] [[(false,.box 169 (eventlog_Log.repW v0_0 v0_1) v0 a0)]] [0,1,2,3,4,5,6,7,8,9,10,11] Try_mixed rfl rfl rfl h2 (.cons ?_ (.cons ?_ (.cons ?_ (.cons ?_ (.cons ?_ (.cons ?_ (.cons ?_ (.cons ?_ (.cons ?_ (.cons ?_ (.cons ?_ .nil))))))))))) (λ q1 w hq1 h=>?_)
 ·intro q1 w Γx Ωx h
  refine OpS.mv rfl rfl rfl ?_
  exact du h
 ·intro q1 w Γx Ωx h
  refine OpS.nchk h .z rfl rfl rfl ?_
  exact du h
 ·intro q1 w Γx Ωx h
  refine OpS.fbox (o3:=1) h .z PA.z fa169_1 rfl rfl rfl rfl ?_
  exact du h
 ·intro q1 w Γx Ωx h
  refine OpS.loadBi h .z PA.a (GetS.ok (GetS.iso _ (GetS.there (GetS.here GetS.id)))) ty3 rfl rfl rfl ?_
  exact du h
 ·intro q1 w Γx Ωx h
  refine OpS.mv rfl rfl rfl ?_
  exact du h
 ·intro q1 w Γx Ωx h
  refine OpS.bin rfl rfl rfl rfl rfl ?_
  exact du h
 ·intro q1 w Γx Ωx h
  refine OpS.mv rfl rfl rfl ?_
  exact du h
 ·intro q1 w Γx Ωx h
  refine OpS.nchk h .z rfl rfl rfl ?_
  exact du h
 ·intro q1 w Γx Ωx h
  refine OpS.fbox (o3:=2) h .z PA.z fa169_2 rfl rfl rfl rfl ?_
  exact du h
 ·intro q1 w Γx Ωx h
  refine OpS.loadBi h .z PA.a (GetS.ok (GetS.iso _ (GetS.there (GetS.there (GetS.here GetS.id))))) ty3 rfl rfl rfl ?_
  exact du h
 ·intro q1 w Γx Ωx h
  refine OpS.rem rfl rfl rfl rfl e3 ?_
  exact du h
 have h3:=h
 refine gb rfl (ga rfl ?_)
 obtain ⟨x2,e4,hF⟩:=letP_use hF
 refine RunL.name e4 ?_
 refine nil (sr (gm rfl (gm rfl (op (OpS.nchk h3 .z rfl rfl rfl ?_)))))
 refine op (OpS.fbox (o3:=0) h3 .z PA.z fa169_0 rfl rfl rfl rfl ?_)
 obtain ⟨e5,hF⟩:=chk_use hF
 obtain ⟨e6,h4⟩:=St.attach (h3.pick (.s (.s .z))) e5
 subst e6
 refine op (OpS.loadR h4 (.s .z) PA.a (GetS.ok (GetS.iso _ (GetS.here GetS.id))) ty31 rfl rfl rfl rfl rfl ?_)
 obtain ⟨y1,e7,hF⟩:=bindP_use hF
 have h5:=h4.front (.cons (.s (.s (.s (.s .z)))) (.cons (.s (.s (.s (.s .z)))) (.cons (.s (.s (.s (.s .z)))) .nil)))
 refine op (OpS.callO h5 Tryz.func71 rfl rfl rfl rfl (vs:=[qd]) rfl (flash_Device_Size_ok e7) rfl .nil ?_)
 rintro _ w2 _ _ _ ⟨rfl,rfl,rfl,rfl⟩ h6
 have h7:=h6
 simp only [ca,na] at h7
 refine gb rfl (ga rfl ?_)
 obtain ⟨x3,e8,hF⟩:=letP_use hF
 refine RunL.name e8 ?_
 refine nil (Run.seq ?_)
 obtain ⟨y2,e9,hF⟩:=bindP_use hF
 obtain ⟨y3,e10,hF⟩:=bindP_use hF
 refine Run.drawV (Ωs:=[(true,.box 3 (Rep.int .i64) u1 a1),(false,.slice 200 eventlog_record.rep v0_1 a0.records)]) [.k 37 v0,.kr 38 v0 [4],.kr 39 (padd v0 0) [4],.kr 40 qd [4,3],.k 41 (.int .i64 x3),.k 42 v0,.kr 43 v0 [4],.kr 44 (padd v0 0) [4],.kr 45 qd [4,3],.kr 46 (.int .i64 y2) [0,1,2],.fr 47 (λ u_=>[(true,.eqv u_ (.tuple #[(tcomp u_ 0),.int .i64 y3.2])),(true,.val (Rep.slice (Rep.int .u8)) (tcomp u_ 0) y3.1)]) [0,1,2],.f 36 (λ u_=>[(true,.eqv u_ (.tuple #[(tcomp u_ 0),.int .i64 y3.2])),(true,.val (Rep.slice (Rep.int .u8)) (tcomp u_ 0) y3.1)]),.f 48 (λ u_=>[(true,.val (Rep.slice (Rep.int .u8)) u_ y3.1)]),.k 49 (.int .i64 y3.2),.f 8 (λ u_=>[(true,.val (Rep.slice (Rep.int .u8)) u_ y3.1)])] [[],[0],[1],[2],[],[],[5],[6],[7],[8],[3,4,9],[10],[11],[11],[12]] [[(false,.box 166 (flash_Device.repW vd_0 vd_1) qd ad)],[(false,.slice 5 (Rep.int .u8) vd_0 ad.bytes)],[(false,.slice 3 (Rep.int .i64) vd_1 ad.wear)],[(false,.lnk qd qd a0.d)],[(false,.box 169 (eventlog_Log.repW qd v0_1) v0 a0)]] [0,1,2,3,4,5,6,7,8,9,10,11,12,13,14,15,16,17,18,19] Try_mixed rfl rfl rfl h7 (.cons ?_ (.cons ?_ (.cons ?_ (.cons ?_ (.cons ?_ (.cons ?_ (.cons ?_ (.cons ?_ (.cons ?_ (.cons ?_ (.cons ?_ (.cons ?_ (.cons ?_ (.cons ?_ (.cons ?_ .nil))))))))))))))) (λ q2 w hq2 h=>?_)
 ·intro q2 w Γx Ωx h
  refine OpS.mv rfl rfl rfl ?_
  exact du h
 ·intro q2 w Γx Ωx h
  refine OpS.nchk h .z rfl rfl rfl ?_
  exact du h
 ·intro q2 w Γx Ωx h
  refine OpS.fbox (o3:=0) h .z PA.z fa169_0 rfl rfl rfl rfl ?_
  exact du h
 ·intro q2 w Γx Ωx h
  refine OpS.loadR h .z PA.a (GetS.ok (GetS.iso _ (GetS.here GetS.id))) ty31 rfl rfl rfl rfl rfl ?_
  exact du h
 ·intro q2 w Γx Ωx h
  refine OpS.mv rfl rfl rfl ?_
  exact du h
 ·intro q2 w Γx Ωx h
  refine OpS.mv rfl rfl rfl ?_
  exact du h
 ·intro q2 w Γx Ωx h
  refine OpS.nchk h .z rfl rfl rfl ?_
  exact du h
 ·intro q2 w Γx Ωx h
  refine OpS.fbox (o3:=0) h .z PA.z fa169_0 rfl rfl rfl rfl ?_
  exact du h
 ·intro q2 w Γx Ωx h
  refine OpS.loadR h .z PA.a (GetS.ok (GetS.iso _ (GetS.here GetS.id))) ty31 rfl rfl rfl rfl rfl ?_
  exact du h
 ·intro q2 w Γx Ωx h
  have h15:=h.front (.cons .z (.cons .z (.cons .z .nil)))
  refine OpS.callO h15 Tryz.func71 rfl rfl rfl rfl (vs:=[qd]) rfl (flash_Device_Size_ok e9) rfl .nil ?_
  rintro _ w5 _ _ _ ⟨rfl,rfl,rfl,rfl⟩ h16
  have h17:=h16
  simp only [ca,na] at h17
  exact ⟨undef,rfl,trivial,h17⟩
 ·intro q2 w Γx Ωx h
  have h18:=h.front (.cons .z (.cons .z (.cons .z .nil)))
  refine OpS.callO h18 Tryz.func70 rfl rfl rfl rfl (vs:=[qd,.int .i64 x3,.int .i64 y2]) rfl (flash_Device_Read_ok e10) rfl .nil ?_
  rintro _ w6 _ _ _ ⟨u3,rfl,rfl,rfl,rfl⟩ h19
  have h20:=h19
  simp only [ca,na] at h20
  have h21:=h20.freeze
  exact ⟨_,rfl,trivial,St.eqv rfl h21⟩
 ·intro q2 w Γx Ωx h
  refine OpS.mv rfl rfl rfl ?_
  exact ⟨_,rfl,trivial,((h.dup (.s .z)).dup (.s .z))⟩
 ·intro q2 w Γx Ωx h
  refine OpS.extT h .z rfl rfl rfl rfl ?_
  exact ⟨_,rfl,trivial,(h.dup (.s .z))⟩
 ·intro q2 w Γx Ωx h
  refine OpS.extT h .z rfl rfl rfl rfl ?_
  exact du h
 ·intro q2 w Γx Ωx h
  refine OpS.as rfl rfl rfl ?_
  exact ⟨_,rfl,trivial,(h.dup .z)⟩
 have h22:=h
 refine ga rfl (nil (Run.slim [(9,.int .i64 y3.2),(8,(q2 14)),(7,.int .i64 x3),(6,.int .i64 x2),(5,.int .i64 x1),(3,u1),(0,v0)] ⟨rfl,rfl,rfl,rfl,rfl,rfl,rfl,trivial⟩ ?_))
 refine Run.seq (sr (gm rfl (gb rfl (gm rfl ?_))))
 refine RunL.caseb hF (λ e11 hF=>?_) (λ e11 hF=>?_)
 ·refine gm rfl ?_
  obtain ⟨y4,e12,hF⟩:=bindP_use hF
  refine op (OpS.callP h22 Tryz.func147 rfl rfl rfl rfl (vs:=[(q2 14)]) rfl (eventlog_blank_ok e12) (.cons (f:=true) (V.at (.s (.s (.s (.s (.s .z)))))) .nil) ?_)
  rintro _ w7 _ _ _ ⟨rfl,rfl,rfl,rfl⟩ h23
  have h24:=h23 rfl rfl
  simp only [ca,na] at h24
  refine op (OpS.not rfl rfl rfl ?_)
  refine gk rfl (nil ?_)
  refine Run.ite rfl hF (λ e13 hF=>?_) (λ e13 hF=>?_)
  ·cases hF
  refine Run.skip (Run.seq (sr (gm rfl (gb rfl (nil ?_)))))
  refine Run.ite rfl hF (λ e14 hF=>?_) (λ e14 hF=>?_)
  ·have h25:=h24.picks (.cons (.s (.s (.s .z))) (.cons (.s (.s (.s .z))) (.cons (.s (.s (.s .z))) (.cons .z (.cons .z (.cons .z (.cons .z .nil)))))))
   obtain ⟨y5,e15,hF⟩:=bindP_use hF
   obtain ⟨y6,e16,hF⟩:=bindP_use hF
   obtain ⟨x4,e17,hF⟩:=bindP_use hF
   obtain ⟨x5,e18,hF⟩:=bindP_use hF
   refine Run.drawV (Ωs:=[(false,.box 166 (flash_Device.repW vd_0 vd_1) qd ad),(false,.slice 5 (Rep.int .u8) vd_0 ad.bytes),(false,.slice 3 (Rep.int .i64) vd_1 ad.wear),(false,.slice 200 eventlog_record.rep v0_1 a0.records)]) [.k 65 v0,.kr 66 v0 [1],.kr 67 (padd v0 0) [1],.kr 68 qd [1,0],.k 69 (.int .i64 x3),.k 70 (.int .i64 x1),⟨some 71,none,λ u_=>[],λ ds_ u_=>[(true,.slice 5 (Rep.int .u8) u_ y5)],[],[],none⟩,.kr 72 (.int .i64 a1) [2],.f 73 (λ u_=>[(true,.val (Rep.slice (Rep.int .u8)) u_ y6)]),⟨some 74,none,λ u_=>[],λ ds_ u_=>[(true,.slice 5 (Rep.int .u8) u_ x4)],[9],[],none⟩,.k 75 v0,.kr 76 v0 [1],.kr 77 (padd v0 7) [1],.kr 78 (.int .u16 a0.next) [1],.k 79 (.int .u8 (IntKind.u8.wrap a0.next)),.k 80 v0,.kr 81 v0 [1],.kr 82 (padd v0 7) [1],.kr 83 (.int .u16 a0.next) [1],.k 84 (.int .u16 (bShr .u16 a0.next 8)),.k 85 (.int .u8 (IntKind.u8.wrap (bShr .u16 a0.next 8))),.f 86 (λ u_=>[(true,.val (Rep.slice (Rep.int .u8)) u_ ([(IntKind.u8.wrap a0.next),(IntKind.u8.wrap (bShr .u16 a0.next 8))]))]),⟨some 87,none,λ u_=>[],λ ds_ u_=>[(true,.slice 5 (Rep.int .u8) u_ x5)],[12],[],none⟩] [[],[0],[1],[2],[],[],[5],[],[7],[6,8],[],[10],[11],[12],[13],[],[15],[16],[17],[18],[19],[14,20],[9,21]] [[(false,.lnk qd qd a0.d)],[(false,.box 169 (eventlog_Log.repW qd v0_1) v0 a0)],[(true,.box 3 (Rep.int .i64) u1 a1)]] [0,1,2,3,4,5,6,7,8,10,11,13,14,15,16,17,18,19,20,21,22,23,24,25] Try_mixed rfl rfl rfl h25 (.cons ?_ (.cons ?_ (.cons ?_ (.cons ?_ (.cons ?_ (.cons ?_ (.cons ?_ (.cons ?_ (.cons ?_ (.cons ?_ (.cons ?_ (.cons ?_ (.cons ?_ (.cons ?_ (.cons ?_ (.cons ?_ (.cons ?_ (.cons ?_ (.cons ?_ (.cons ?_ (.cons ?_ (.cons ?_ (.cons ?_ .nil))))))))))))))))))))))) (λ q3 w hq3 h=>?_)
   ·intro q3 w Γx Ωx h
    refine OpS.mv rfl rfl rfl ?_
    exact du h
   ·intro q3 w Γx Ωx h
    refine OpS.nchk h .z rfl rfl rfl ?_
    exact du h
   ·intro q3 w Γx Ωx h
    refine OpS.fbox (o3:=0) h .z PA.z fa169_0 rfl rfl rfl rfl ?_
    exact du h
   ·intro q3 w Γx Ωx h
    refine OpS.loadR h .z PA.a (GetS.ok (GetS.iso _ (GetS.here GetS.id))) ty31 rfl rfl rfl rfl rfl ?_
    exact du h
   ·intro q3 w Γx Ωx h
    refine OpS.mv rfl rfl rfl ?_
    exact du h
   ·intro q3 w Γx Ωx h
    refine OpS.mv rfl rfl rfl ?_
    exact du h
   ·intro q3 w Γx Ωx h
    refine OpS.callP h Tryz.func208 rfl rfl rfl rfl (vs:=[.int .i64 x1]) rfl (eventlog_write4_ok e15) .nil ?_
    rintro u w13 _ _ _ ⟨_,rfl,rfl,rfl,rfl⟩ h34
    have h35:=h34 rfl rfl
    simp only [ca,na] at h35
    exact ⟨u,rfl,trivial,h35⟩
   ·intro q3 w Γx Ωx h
    refine OpS.loadBi h .z PA.z Get.id ty3 rfl rfl rfl ?_
    exact du h
   ·intro q3 w Γx Ωx h
    refine OpS.callP h Tryz.func208 rfl rfl rfl rfl (vs:=[.int .i64 a1]) rfl (eventlog_write4_ok e16) .nil ?_
    rintro u w14 _ _ _ ⟨_,rfl,rfl,rfl,rfl⟩ h36
    have h37:=h36 rfl rfl
    simp only [ca,na] at h37
    have h38:=h37.freeze
    exact ⟨u,rfl,trivial,h38⟩
   ·intro q3 w Γx Ωx h
    refine OpS.app (f':=true) h .z Tryz.underlying24 ti5 rfl rfl rfl rfl rfl rfl rfl (V.at .z) (.inr Pure.int) e17 (λ u w15 h39=>?_)
    exact ⟨u,rfl,trivial,h39⟩
   ·intro q3 w Γx Ωx h
    refine OpS.mv rfl rfl rfl ?_
    exact du h
   ·intro q3 w Γx Ωx h
    refine OpS.nchk h .z rfl rfl rfl ?_
    exact du h
   ·intro q3 w Γx Ωx h
    refine OpS.fbox (o3:=7) h .z PA.z fa169_7 rfl rfl rfl rfl ?_
    exact du h
   ·intro q3 w Γx Ωx h
    refine OpS.loadBi h .z PA.a (GetS.ok (GetS.iso _ (GetS.there (GetS.there (GetS.there (GetS.there (GetS.there (GetS.there (GetS.there (GetS.here GetS.id)))))))))) ty49 rfl rfl rfl ?_
    exact du h
   ·intro q3 w Γx Ωx h
    refine OpS.conv Tryz.underlying49 Tryz.underlying5 rfl rfl rfl ?_
    exact du h
   ·intro q3 w Γx Ωx h
    refine OpS.mv rfl rfl rfl ?_
    exact du h
   ·intro q3 w Γx Ωx h
    refine OpS.nchk h .z rfl rfl rfl ?_
    exact du h
   ·intro q3 w Γx Ωx h
    refine OpS.fbox (o3:=7) h .z PA.z fa169_7 rfl rfl rfl rfl ?_
    exact du h
   ·intro q3 w Γx Ωx h
    refine OpS.loadBi h .z PA.a (GetS.ok (GetS.iso _ (GetS.there (GetS.there (GetS.there (GetS.there (GetS.there (GetS.there (GetS.there (GetS.here GetS.id)))))))))) ty49 rfl rfl rfl ?_
    exact du h
   ·intro q3 w Γx Ωx h
    refine OpS.shr rfl rfl rfl rfl (by decide) ?_
    exact du h
   ·intro q3 w Γx Ωx h
    refine OpS.conv Tryz.underlying49 Tryz.underlying5 rfl rfl rfl ?_
    exact du h
   ·intro q3 w Γx Ωx h
    refine OpS.lit (r:=(Rep.int .u8)) (f:=true) h Tryz.underlying24 ti5 rfl rfl rfl rfl rfl (.cons rfl V.int (.cons rfl V.int .nil)) rfl rfl (λ u w16 h40=>?_)
    exact ⟨u,rfl,trivial,h40⟩
   ·intro q3 w Γx Ωx h
    refine OpS.app (f':=true) h .z Tryz.underlying24 ti5 rfl rfl rfl rfl rfl rfl rfl (V.at .z) (.inr Pure.int) e18 (λ u w17 h41=>?_)
    exact ⟨u,rfl,trivial,h41⟩
   have h42:=h
   have h43:=(h42.pick (.s (.s (.s .z)))).freeze
   obtain ⟨y7,e19,hF⟩:=bindP_use hF
   have h44:=h43.front (.cons (.s (.s (.s .z))) (.cons (.s (.s (.s .z))) (.cons (.s (.s (.s .z))) .nil)))
   refine op (OpS.callO h44 Tryz.func88 rfl rfl rfl rfl (vs:=[qd,.int .i64 x3,(q3 22)]) rfl (flash_Device_Program_ok e19) rfl (.cons (f:=true) (V.at .z) .nil) ?_)
   rintro _ w18 _ _ _ ⟨u4,u5,rfl,rfl,rfl,rfl⟩ h45
   have h46:=h45
   simp only [ca,na] at h46
   refine ga rfl (nil (Run.slim [(9,.int .i64 y7.1),(7,.int .i64 x3),(5,.int .i64 x1),(3,u1),(0,v0)] ⟨rfl,rfl,rfl,rfl,rfl,trivial⟩ ?_))
   refine Run.seq (sr (gm rfl (gb rfl (nil ?_))))
   refine Run.ite rfl hF (λ e20 hF=>?_) (λ e20 hF=>?_)
   ·refine Run.reg (gm rfl (op (OpS.nchk h46 (.s (.s (.s (.s .z)))) rfl rfl rfl ?_)))
    refine op (OpS.fbox (o3:=0) h46 (.s (.s (.s (.s .z)))) PA.z fa169_0 rfl rfl rfl rfl ?_)
    refine op (OpS.loadR h46 (.s (.s (.s (.s .z)))) PA.a (GetS.ok (GetS.iso _ (GetS.here GetS.id))) ty31 rfl rfl rfl rfl rfl ?_)
    refine gm rfl (gb rfl (op (OpS.lit (r:=(Rep.int .u8)) (f:=true) h46 Tryz.underlying24 ti5 rfl rfl rfl rfl rfl (.cons rfl V.int .nil) rfl rfl (λ u6 w19 h47=>?_))))
    obtain ⟨y8,e21,hF⟩:=bindP_use hF
    have h48:=h47.front (.cons .z (.cons .z (.cons .z .nil)))
    refine op (OpS.callO h48 Tryz.func88 rfl rfl rfl rfl (vs:=[qd,.int .i64 (IntKind.i64.wrap (x3+10)),u6]) rfl (flash_Device_Program_ok e21) rfl (.cons (f:=true) (V.at .z) .nil) ?_)
    rintro _ w20 _ _ _ ⟨u7,u8,rfl,rfl,rfl,rfl⟩ h49
    have h50:=h49
    simp only [ca,na] at h50
    refine ga rfl (nil (Run.seq (sr (gm rfl (gb rfl (nil ?_))))))
    refine Run.ite rfl hF (λ e22 hF=>?_) (λ e22 hF=>?_)
    ·refine Run.seq ?_
     have h51:=h50.picks (.cons (.s (.s (.s (.s .z)))) (.cons (.s (.s (.s (.s .z)))) (.cons .z (.cons .z (.cons .z (.cons .z (.cons .z .nil)))))))
     obtain ⟨d1,e23,hF⟩:=letP_use hF
     obtain ⟨d2,e24,hF⟩:=letP_use hF
     refine Run.drawV (Ωs:=[(false,.box 166 (flash_Device.repW u7 u8) qd y8.2),(false,.slice 5 (Rep.int .u8) u7 y8.2.bytes),(false,.slice 3 (Rep.int .i64) u8 y8.2.wear),(false,.lnk qd qd a0.d),(false,.slice 200 eventlog_record.rep v0_1 a0.records)]) [.k 101 v0,.k 102 v0,.k 103 v0,.k 104 (.int .i64 x1),.kr 105 (.int .i64 a1) [1],⟨some 106,some (v0),λ _=>[],λ ds_ u_=>[],[],[(0,[7,6,5])],none⟩,⟨some 107,some ((padd v0 4)),λ _=>[],λ ds_ u_=>[],[],[(0,[7,6])],none⟩,⟨none,some undef,λ _=>[],λ ds_ u_=>[(false,.box 169 (eventlog_Log.repW qd v0_1) v0 d1)],[0],[],none⟩,⟨some 108,some (v0),λ _=>[],λ ds_ u_=>[],[],[(9,[10,9,8])],none⟩,⟨some 109,some ((padd v0 5)),λ _=>[],λ ds_ u_=>[],[],[(9,[10,9])],none⟩,⟨none,some undef,λ _=>[],λ ds_ u_=>[(false,.box 169 (eventlog_Log.repW qd v0_1) v0 d2)],[9],[],none⟩] [[],[],[],[],[],[0],[5],[6,3],[1],[8],[9,4]] [[(false,.box 169 (eventlog_Log.repW qd v0_1) v0 a0)],[(true,.box 3 (Rep.int .i64) u1 a1)]] [1,2,3,4,5,6,7,8,10,11,12] Try_mixed rfl rfl rfl h51 (.cons ?_ (.cons ?_ (.cons ?_ (.cons ?_ (.cons ?_ (.cons ?_ (.cons ?_ (.cons ?_ (.cons ?_ (.cons ?_ (.cons ?_ .nil))))))))))) (λ q4 w hq4 h=>?_)
     ·intro q4 w Γx Ωx h
      refine OpS.mv rfl rfl rfl ?_
      exact du h
     ·intro q4 w Γx Ωx h
      refine OpS.mv rfl rfl rfl ?_
      exact du h
     ·intro q4 w Γx Ωx h
      refine OpS.mv rfl rfl rfl ?_
      exact du h
     ·intro q4 w Γx Ωx h
      refine OpS.mv rfl rfl rfl ?_
      exact du h
     ·intro q4 w Γx Ωx h
      refine OpS.loadBi h .z PA.z Get.id ty3 rfl rfl rfl ?_
      exact du h
     ·intro q4 w Γx Ωx h
      refine OpS.nchk h .z rfl rfl rfl ?_
      exact du h
     ·intro q4 w Γx Ωx h
      refine OpS.fbox (o3:=4) h .z PA.z fa169_4 rfl rfl rfl rfl ?_
      exact du h
     ·intro q4 w Γx Ωx h
      refine OpS.storeC (f':=true) (fr:=(Rep.int .i64)) (r':=(eventlog_Log.repW qd v0_1)) (x':=d1) h .z PA.a (Chg.of (x':={ a0 with newest:=x1 }) (Chg.iso _ (Chg.there (Chg.there (Chg.there (Chg.there (Chg.here (Chg.id (by rfl)))))))) e23) ty3 rfl rfl rfl V.int (.inr rfl) (λ w23 h54=>?_)
      exact ⟨undef,trivial,trivial,h54⟩
     ·intro q4 w Γx Ωx h
      refine OpS.nchk h .z rfl rfl rfl ?_
      exact du h
     ·intro q4 w Γx Ωx h
      refine OpS.fbox (o3:=5) h .z PA.z fa169_5 rfl rfl rfl rfl ?_
      exact du h
     ·intro q4 w Γx Ωx h
      refine OpS.storeC (f':=true) (fr:=(Rep.int .i64)) (r':=(eventlog_Log.repW qd v0_1)) (x':=d2) h .z PA.a (Chg.of (x':={ d1 with tail:=a1 }) (Chg.iso _ (Chg.there (Chg.there (Chg.there (Chg.there (Chg.there (Chg.here (Chg.id (by rfl))))))))) e24) ty3 rfl rfl rfl V.int (.inr rfl) (λ w24 h55=>?_)
      exact ⟨undef,trivial,trivial,h55⟩
     have h56:=h
     refine op (OpS.nchk h56 (.s .z) rfl rfl rfl ?_)
     refine op (OpS.fbox (o3:=6) h56 (.s .z) PA.z fa169_6 rfl rfl rfl rfl ?_)
     obtain ⟨d3,e25,hF⟩:=letP_use hF
     refine op (OpS.storeC (f':=true) (fr:=(Rep.int .i64)) (r':=(eventlog_Log.repW qd v0_1)) (x':=d3) h56 (.s .z) PA.a (Chg.of (x':={ d2 with used:=0 }) (Chg.iso _ (Chg.there (Chg.there (Chg.there (Chg.there (Chg.there (Chg.there (Chg.here (Chg.id (by rfl)))))))))) e25) ty3 rfl rfl rfl V.int (.inr rfl) (λ w25 h57=>?_))
     refine nil (Run.reg (gm rfl (gm rfl (op (OpS.nchk h57 .z rfl rfl rfl ?_)))))
     refine op (OpS.fbox (o3:=8) h57 .z PA.z fa169_8 rfl rfl rfl rfl ?_)
     refine op (OpS.loadR h57 .z PA.a (GetS.ok (GetS.iso _ (GetS.there (GetS.there (GetS.there (GetS.there (GetS.there (GetS.there (GetS.there (GetS.there (GetS.here GetS.id))))))))))) ty167 rfl rfl rfl rfl rfl ?_)
     refine op (OpS.mkf (fl:=[]) (cl:=[u1]) rfl rfl rfl rfl ?_)
     have h58:=(h57.pick (.s .z)).freezeBox
     obtain ⟨y9,e26,hF⟩:=bindP_use hF
     have h59:=h58.front (.cons (.s (.s (.s (.s (.s .z))))) .nil)
     refine op (OpS.callO h59 Tryz.func209 rfl rfl rfl rfl (vs:=[v0_1,.func (.func 210) #[] #[u1]]) rfl (slices_DeleteFunc_eventlog_record_eventlog_record_eventlog_Log_open_1_ok e26) rfl (.ptr .z .nil) ?_)
     rintro u9 w26 _ _ _ ⟨_,rfl,rfl,rfl,rfl⟩ h60
     have h61:=h60
     simp only [ca,na] at h61
     refine op (OpS.nchk h61 (.s .z) rfl rfl rfl ?_)
     refine op (OpS.fbox (o3:=8) h61 (.s .z) PA.z fa169_8 rfl rfl rfl rfl ?_)
     refine op (OpS.storeC (f':=false) (fr:=(Rep.raw u9)) (r':=(eventlog_Log.repW qd u9)) (x':=d3) h61 (.s .z) PA.a (Chg.iso _ (Chg.there (Chg.there (Chg.there (Chg.there (Chg.there (Chg.there (Chg.there (Chg.there (Chg.here (Chg.id (by rfl)))))))))))) (Ty.like ty167 (by rfl) (by rfl)) rfl rfl rfl (V.raw (f:=false) (St.own1 h61 .z) d3.records) (.inr rfl) (λ w27 h62=>?_))
     refine nil (Run.slim [(9,.int .i64 y8.1)] ⟨rfl,trivial⟩ ?_)
     refine sr (gm rfl (ga rfl (nil ?_)))
     have h63:=St.boxJ (r':=(eventlog_Log.repW qd u9)) (x':={ { d3 with d:=a0.d } with records:=y9 }) (h62.pick .z) (λ _ _ hs_=>(Jn.iso _ (Jn.prod Jn.same (Jn.prod Jn.refl (Jn.prod Jn.refl (Jn.prod Jn.refl (Jn.prod Jn.refl (Jn.prod Jn.refl (Jn.prod Jn.refl (Jn.prod Jn.refl (Jn.prod Jn.same Jn.refl)))))))))))
     refine Run.retP rfl (.tmp rfl .nil) ?_
     cases hF
     exact Post.mk' ⟨qd,u9,u7,u8,rfl,rfl,rfl,rfl⟩ (h63.picks (.cons .z (.cons (.s (.s (.s (.s .z)))) (.cons .z (.cons .z (.cons .z (.cons .z .nil))))))) .nil
    cases hF
   cases hF
  cases hF
 cases hF
set_option maxRecDepth 20000 in
theorem eventlog_Log_grow_ok {fuel:Nat} {a0:eventlog_Log} {ad:flash_Device} {y:Int×eventlog_Log×flash_Device} (hF:eventlog_Log_grow fuel a0 ad=some y) {w:World} {v0 v0_0 qd v0_1 vd_0 vd_1:Value} :
  Spec Tryz.prog 86 [v0].toArray w [] [(false,.box 169 (eventlog_Log.repW v0_0 v0_1) v0 a0),(false,.lnk qd v0_0 a0.d),(false,.slice 200 eventlog_record.rep v0_1 a0.records),(false,.box 166 (flash_Device.repW vd_0 vd_1) qd ad),(false,.slice 5 (Rep.int .u8) vd_0 ad.bytes),(false,.slice 3 (Rep.int .i64) vd_1 ad.wear)] (λ v Γr Ωr Ωo=>∃ w0_0 w0_1 wd_0 wd_1:Value,v=.int .i64 y.1∧Γr=[]∧Ωr=[]∧Ωo=[(false,.box 169 (eventlog_Log.repW w0_0 w0_1) v0 y.2.1),(false,.lnk qd w0_0 y.2.1.d),(false,(.slice 200 eventlog_record.rep w0_1 y.2.1.records)),(false,.box 166 (flash_Device.repW wd_0 wd_1) qd y.2.2),(false,(.slice 5 (Rep.int .u8) wd_0 y.2.2.bytes)),(false,(.slice 3 (Rep.int .i64) wd_1 y.2.2.wear))]):=by
 refine Spec.of (L:=[(0,v0)]) Tryz.func86 rfl ⟨rfl,trivial⟩ rfl (λ e h=>?_)
 unfold eventlog_Log_grow at hF
 refine sr (ga rfl (nil (sr (gm rfl (op (OpS.nchk h .z rfl rfl rfl ?_))))))
 refine op (OpS.fbox (o3:=5) h .z PA.z fa169_5 rfl rfl rfl rfl ?_)
 refine op (OpS.loadBi h .z PA.a (GetS.ok (GetS.iso _ (GetS.there (GetS.there (GetS.there (GetS.there (GetS.there (GetS.here GetS.id)))))))) ty3 rfl rfl rfl ?_)
 refine op (OpS.maxi rfl rfl rfl rfl ?_)
 refine ga rfl (nil (Run.seq (Run.seq ?_)))
 refine Run.drawV (Ωs:=[(false,.lnk qd v0_0 a0.d),(false,.slice 200 eventlog_record.rep v0_1 a0.records),(false,.box 166 (flash_Device.repW vd_0 vd_1) qd ad),(false,.slice 5 (Rep.int .u8) vd_0 ad.bytes),(false,.slice 3 (Rep.int .i64) vd_1 ad.wear)]) [.k 9 v0,.kr 10 v0 [0],.kr 11 (padd v0 4) [0],.kr 12 (.int .i64 a0.newest) [0],.k 13 (.int .i64 (IntKind.i64.wrap (a0.newest+1))),.k 14 (.int .i64 (max a0.tail 1)),.k 15 (.int .i64 (IntKind.i64.wrap ((IntKind.i64.wrap (a0.newest+1))-(max a0.tail 1)))),.k 16 v0,.kr 17 v0 [0],.kr 18 (padd v0 2) [0],.kr 19 (.int .i64 a0.sectors) [0],.k 20 (.int .i64 (IntKind.i64.wrap (a0.sectors-2)))] [[],[0],[1],[2],[3],[],[4,5],[],[7],[8],[9],[10]] [[(false,.box 169 (eventlog_Log.repW v0_0 v0_1) v0 a0)]] [0,1,2,3,4,5,6,7,8,9,10,11,12] Try_mixed rfl rfl rfl h (.cons ?_ (.cons ?_ (.cons ?_ (.cons ?_ (.cons ?_ (.cons ?_ (.cons ?_ (.cons ?_ (.cons ?_ (.cons ?_ (.cons ?_ (.cons ?_ .nil)))))))))))) (λ q1 w hq1 h=>?_)
 ·intro q1 w Γx Ωx h
  refine OpS.mv rfl rfl rfl ?_
  exact du h
 ·intro q1 w Γx Ωx h
  refine OpS.nchk h .z rfl rfl rfl ?_
  exact du h
 ·intro q1 w Γx Ωx h
  refine OpS.fbox (o3:=4) h .z PA.z fa169_4 rfl rfl rfl rfl ?_
  exact du h
 ·intro q1 w Γx Ωx h
  refine OpS.loadBi h .z PA.a (GetS.ok (GetS.iso _ (GetS.there (GetS.there (GetS.there (GetS.there (GetS.here GetS.id))))))) ty3 rfl rfl rfl ?_
  exact du h
 ·intro q1 w Γx Ωx h
  refine OpS.bin rfl rfl rfl rfl rfl ?_
  exact du h
 ·intro q1 w Γx Ωx h
  refine OpS.mv rfl rfl rfl ?_
  exact du h
 ·intro q1 w Γx Ωx h
  refine OpS.bin rfl rfl rfl rfl rfl ?_
  exact du h
 ·intro q1 w Γx Ωx h
  refine OpS.mv rfl rfl rfl ?_
  exact du h
 ·intro q1 w Γx Ωx h
  refine OpS.nchk h .z rfl rfl rfl ?_
  exact du h
 ·intro q1 w Γx Ωx h
  refine OpS.fbox (o3:=2) h .z PA.z fa169_2 rfl rfl rfl rfl ?_
  exact du h
 ·intro q1 w Γx Ωx h
  refine OpS.loadBi h .z PA.a (GetS.ok (GetS.iso _ (GetS.there (GetS.there (GetS.here GetS.id))))) ty3 rfl rfl rfl ?_
  exact du h
 ·intro q1 w Γx Ωx h
  refine OpS.bin rfl rfl rfl rfl rfl ?_
  exact du h
 have h1:=h
 refine gb rfl (nil ?_)
 refine Run.ite rfl hF (λ e1 hF=>?_) (λ e1 hF=>?_)
 ·cases hF
 refine Run.skip (sr (gm rfl (gm rfl ?_)))
 obtain ⟨y1,e2,hF⟩:=bindP_use hF
 have h2:=h1.front (.cons .z (.cons .z (.cons .z (.cons .z (.cons .z (.cons .z .nil))))))
 refine op (OpS.callO h2 Tryz.func156 rfl rfl rfl rfl (vs:=[v0,.int .i64 (max a0.tail 1)]) rfl (eventlog_Log_open_ok e2) rfl .nil ?_)
 rintro _ w1 _ _ _ ⟨u1,u2,u3,u4,rfl,rfl,rfl,rfl⟩ h3
 have h4:=h3
 simp only [ca,na] at h4
 refine ga rfl (nil (Run.retP rfl (.tmp rfl .nil) ?_))
 cases hF
 exact Post.mk' ⟨u1,u2,u3,u4,rfl,rfl,rfl,rfl⟩ (h4.picks (.cons .z (.cons .z (.cons .z (.cons .z (.cons .z (.cons .z .nil))))))) .nil
theorem event_Encode_ok {fuel:Nat} {a0:Event_} {y:(List Int)×Int} (hF:event_Encode fuel a0=some y) {w:World} {v0:Value} :
  Spec Tryz.prog 87 [v0].toArray w [(false,.val Event_.rep v0 a0)] [] (λ v Γr Ωr Ωo=>∃ u0:Value,v=.tuple #[u0,.int .i64 y.2]∧Γr=[]∧Ωr=[(true,(.slice 5 (Rep.int .u8) u0 y.1))]∧Ωo=[]):=by
 refine Spec.of (L:=[(0,v0)]) Tryz.func87 rfl ⟨rfl,trivial⟩ rfl (λ e h=>?_)
 unfold event_Encode at hF
 refine sr (op (OpS.boxF h rfl rfl rfl (V.at .z) (λ u1 w1 h1=>?_)))
 refine ga rfl (ga rfl (nil (Run.seq (sr (op (OpS.loadB h1 .z PA.z Get.id ty55 rfl rfl rfl (λ u2 h2=>?_)))))))
 obtain ⟨y1,e1,hF⟩:=bindP_use hF
 refine op (OpS.callP h2 Tryz.func84 rfl rfl rfl rfl (vs:=[u2]) rfl (event_Valid_ok e1) (.cons (f:=false) (V.at .z) .nil) ?_)
 rintro _ w2 _ _ _ ⟨rfl,rfl,rfl,rfl⟩ h3
 have h4:=h3 rfl rfl
 simp only [ca,na] at h4
 refine op (OpS.not rfl rfl rfl ?_)
 refine nil ?_
 refine Run.ite rfl hF (λ e2 hF=>?_) (λ e2 hF=>?_)
 ·cases hF
 refine Run.skip (sr (op (OpS.fbox (o3:=5) h4 .z PA.z fa55_5 rfl rfl rfl rfl ?_)))
 refine op (OpS.loadBi h4 .z PA.a (Get.fld Event_.f5) ty5 rfl rfl rfl ?_)
 refine ga rfl (nil (Run.seq (sr (op (OpS.fbox (o3:=6) h4 .z PA.z fa55_6 rfl rfl rfl rfl ?_)))))
 refine op (OpS.loadBb h4 .z PA.a (Get.fld Event_.f6) ty4 rfl rfl rfl ?_)
 refine nil ?_
 refine Run.ite rfl hF (λ e3 hF=>?_) (λ e3 hF=>?_)
 ·cases hF
 refine Run.skip (sr (op (OpS.fbox (o3:=0) h4 .z PA.z fa55_0 rfl rfl rfl rfl ?_)))
 refine op (OpS.loadBi h4 .z PA.a (Get.fld Event_.f0) ty49 rfl rfl rfl ?_)
 refine op (OpS.conv Tryz.underlying49 Tryz.underlying5 rfl rfl rfl ?_)
 refine op (OpS.fbox (o3:=0) h4 .z PA.z fa55_0 rfl rfl rfl rfl ?_)
 refine op (OpS.loadBi h4 .z PA.a (Get.fld Event_.f0) ty49 rfl rfl rfl ?_)
 refine op (OpS.shr rfl rfl rfl rfl (by decide) ?_)
 refine op (OpS.conv Tryz.underlying49 Tryz.underlying5 rfl rfl rfl ?_)
 refine op (OpS.fbox (o3:=1) h4 .z PA.z fa55_1 rfl rfl rfl rfl ?_)
 refine op (OpS.loadBi h4 .z PA.a (Get.fld Event_.f1) ty52 rfl rfl rfl ?_)
 refine op (OpS.conv Tryz.underlying52 Tryz.underlying5 rfl rfl rfl ?_)
 refine op (OpS.fbox (o3:=1) h4 .z PA.z fa55_1 rfl rfl rfl rfl ?_)
 refine op (OpS.loadBi h4 .z PA.a (Get.fld Event_.f1) ty52 rfl rfl rfl ?_)
 refine op (OpS.shr rfl rfl rfl rfl (by decide) ?_)
 refine op (OpS.conv Tryz.underlying52 Tryz.underlying5 rfl rfl rfl ?_)
 refine op (OpS.fbox (o3:=1) h4 .z PA.z fa55_1 rfl rfl rfl rfl ?_)
 refine op (OpS.loadBi h4 .z PA.a (Get.fld Event_.f1) ty52 rfl rfl rfl ?_)
 refine op (OpS.shr rfl rfl rfl rfl (by decide) ?_)
 refine op (OpS.conv Tryz.underlying52 Tryz.underlying5 rfl rfl rfl ?_)
 refine op (OpS.fbox (o3:=1) h4 .z PA.z fa55_1 rfl rfl rfl rfl ?_)
 refine op (OpS.loadBi h4 .z PA.a (Get.fld Event_.f1) ty52 rfl rfl rfl ?_)
 refine op (OpS.shr rfl rfl rfl rfl (by decide) ?_)
 refine op (OpS.conv Tryz.underlying52 Tryz.underlying5 rfl rfl rfl ?_)
 refine op (OpS.fbox (o3:=2) h4 .z PA.z fa55_2 rfl rfl rfl rfl ?_)
 refine op (OpS.loadBi h4 .z PA.a (Get.fld Event_.f2) ty49 rfl rfl rfl ?_)
 refine op (OpS.conv Tryz.underlying49 Tryz.underlying5 rfl rfl rfl ?_)
 refine op (OpS.fbox (o3:=2) h4 .z PA.z fa55_2 rfl rfl rfl rfl ?_)
 refine op (OpS.loadBi h4 .z PA.a (Get.fld Event_.f2) ty49 rfl rfl rfl ?_)
 refine op (OpS.shr rfl rfl rfl rfl (by decide) ?_)
 refine op (OpS.conv Tryz.underlying49 Tryz.underlying5 rfl rfl rfl ?_)
 refine op (OpS.fbox (o3:=3) h4 .z PA.z fa55_3 rfl rfl rfl rfl ?_)
 refine op (OpS.loadBi h4 .z PA.a (Get.fld Event_.f3) ty5 rfl rfl rfl ?_)
 refine op (OpS.fbox (o3:=4) h4 .z PA.z fa55_4 rfl rfl rfl rfl ?_)
 refine op (OpS.loadBi h4 .z PA.a (Get.fld Event_.f4) ty5 rfl rfl rfl ?_)
 refine gm rfl (op (OpS.fbox (o3:=7) h4 .z PA.z fa55_7 rfl rfl rfl rfl ?_))
 obtain ⟨x1,e4,hF⟩:=bindP_use hF
 obtain ⟨e5,hF⟩:=chk_use hF
 refine op (OpS.ibox h4 .z PA.a Tryz.underlying53 ty5 (Nat.eq_of_beq_eq_true e5) rfl rfl rfl rfl e4 ?_)
 refine op (OpS.loadBi h4 .z PA.a (Get.comp (Get.fld Event_.f7) (Get.arr e4)) ty5 rfl rfl rfl ?_)
 refine op (OpS.fbox (o3:=7) h4 .z PA.z fa55_7 rfl rfl rfl rfl ?_)
 obtain ⟨x2,e6,hF⟩:=bindP_use hF
 obtain ⟨e7,hF⟩:=chk_use hF
 refine op (OpS.ibox h4 .z PA.a Tryz.underlying53 ty5 (Nat.eq_of_beq_eq_true e7) rfl rfl rfl rfl e6 ?_)
 refine op (OpS.loadBi h4 .z PA.a (Get.comp (Get.fld Event_.f7) (Get.arr e6)) ty5 rfl rfl rfl ?_)
 refine op (OpS.fbox (o3:=7) h4 .z PA.z fa55_7 rfl rfl rfl rfl ?_)
 obtain ⟨x3,e8,hF⟩:=bindP_use hF
 obtain ⟨e9,hF⟩:=chk_use hF
 refine op (OpS.ibox h4 .z PA.a Tryz.underlying53 ty5 (Nat.eq_of_beq_eq_true e9) rfl rfl rfl rfl e8 ?_)
 refine op (OpS.loadBi h4 .z PA.a (Get.comp (Get.fld Event_.f7) (Get.arr e8)) ty5 rfl rfl rfl ?_)
 refine op (OpS.litO (r:=(Rep.int .u8)) (f:=true) h4 Tryz.underlying24 ti5 rfl rfl rfl rfl rfl (.cons rfl V.int (.cons rfl V.int (.cons rfl V.int (.cons rfl V.int (.cons rfl V.int (.cons rfl V.int (.cons rfl V.int (.cons rfl V.int (.cons rfl V.int (.cons rfl V.int (.cons rfl V.int (.cons rfl V.int (.cons rfl V.int (.cons rfl V.int (.cons rfl V.int (.cons rfl V.int .nil)))))))))))))))) rfl rfl (λ u3 w3 h5=>?_))
 refine ga rfl (ga rfl (nil (Run.slim [(3,.int .i64 0),(2,u3)] ⟨rfl,rfl,trivial⟩ ?_)))
 refine Run.retP rfl (.tmp rfl (.tmp rfl .nil)) ?_
 cases hF
 exact Post.mk' ⟨u3,rfl,rfl,rfl,rfl⟩ (h5.picks (.cons .z .nil)) .nil
set_option maxHeartbeats 8000000 in set_option maxRecDepth 20000 in
theorem eventlog_Log_Add_ok {fuel:Nat} {a0:eventlog_Log} {a1:Event_} {ad:flash_Device} {y:Int×Int×eventlog_Log×flash_Device} (hF:eventlog_Log_Add fuel a0 a1 ad=some y) {w:World} {v0 v0_0 qd v0_1 v1 vd_0 vd_1:Value} :
  Spec Tryz.prog 21 [v0,v1].toArray w [(false,.val Event_.rep v1 a1)] [(false,.box 169 (eventlog_Log.repW v0_0 v0_1) v0 a0),(false,.lnk qd v0_0 a0.d),(false,.slice 200 eventlog_record.rep v0_1 a0.records),(false,.box 166 (flash_Device.repW vd_0 vd_1) qd ad),(false,.slice 5 (Rep.int .u8) vd_0 ad.bytes),(false,.slice 3 (Rep.int .i64) vd_1 ad.wear)] (λ v Γr Ωr Ωo=>∃ w0_0 w0_1 wd_0 wd_1:Value,v=.tuple #[.int .u16 y.1,.int .i64 y.2.1]∧Γr=[]∧Ωr=[]∧Ωo=[(false,.box 169 (eventlog_Log.repW w0_0 w0_1) v0 y.2.2.1),(false,.lnk qd w0_0 y.2.2.1.d),(false,(.slice 200 eventlog_record.rep w0_1 y.2.2.1.records)),(false,.box 166 (flash_Device.repW wd_0 wd_1) qd y.2.2.2),(false,(.slice 5 (Rep.int .u8) wd_0 y.2.2.2.bytes)),(false,(.slice 3 (Rep.int .i64) wd_1 y.2.2.2.wear))]):=by
 refine Spec.of (L:=[(0,v0),(1,v1)]) Tryz.func21 rfl ⟨rfl,rfl,trivial⟩ rfl (λ e h=>?_)
 unfold eventlog_Log_Add at hF
 refine sr (op (OpS.boxF h rfl rfl rfl (V.at .z) (λ u1 w1 h1=>?_)))
 refine ga rfl (ga rfl (nil (Run.seq (sr (gm rfl ?_)))))
 obtain ⟨y1,e1,hF⟩:=bindP_use hF
 have h2:=h1.front (.cons (.s .z) (.cons (.s .z) (.cons (.s .z) (.cons (.s .z) (.cons (.s .z) (.cons (.s .z) .nil))))))
 refine op (OpS.callO h2 Tryz.func83 rfl rfl rfl rfl (vs:=[v0]) rfl (eventlog_Log_down_ok e1) rfl .nil ?_)
 rintro _ w2 _ _ _ ⟨u2,u3,u4,u5,rfl,rfl,rfl,rfl⟩ h3
 have h4:=h3
 simp only [ca,na] at h4
 refine nil ?_
 refine Run.ite rfl hF (λ e2 hF=>?_) (λ e2 hF=>?_)
 ·cases hF
 refine Run.skip (Run.seq (sr (op (OpS.loadB h4 (.s (.s (.s (.s (.s (.s .z)))))) PA.z Get.id ty55 rfl rfl rfl (λ u6 h5=>?_)))))
 obtain ⟨y2,e3,hF⟩:=bindP_use hF
 refine op (OpS.callP h5 Tryz.func84 rfl rfl rfl rfl (vs:=[u6]) rfl (event_Valid_ok e3) (.cons (f:=false) (V.at .z) .nil) ?_)
 rintro _ w3 _ _ _ ⟨rfl,rfl,rfl,rfl⟩ h6
 have h7:=h6 rfl rfl
 simp only [ca,na] at h7
 refine op (OpS.not rfl rfl rfl ?_)
 refine gm rfl ?_
 refine RunL.caseb hF (λ e4 hF=>?_) (λ e4 hF=>?_)
 ·cases hF
 refine op (OpS.fbox (o3:=0) h7 (.s (.s (.s (.s (.s (.s .z)))))) PA.z fa55_0 rfl rfl rfl rfl ?_)
 refine op (OpS.loadBi h7 (.s (.s (.s (.s (.s (.s .z)))))) PA.a (Get.fld Event_.f0) ty49 rfl rfl rfl ?_)
 refine gb rfl (gk rfl (nil ?_))
 refine Run.ite rfl hF (λ e5 hF=>?_) (λ e5 hF=>?_)
 ·cases hF
 refine Run.skip (Run.seq (Run.seq ?_))
 obtain ⟨e6,hF⟩:=chk_use hF
 obtain ⟨e7,h8⟩:=St.attach (h7.pick (.s .z)) e6
 subst e7
 have h9:=h8.picks (.cons (.s .z) (.cons .z (.cons .z (.cons .z (.cons .z (.cons .z (.cons .z .nil)))))))
 obtain ⟨x1,e8,hF⟩:=letP_use hF
 refine iteP_use hF (λ e9 hF=>?_) (λ e9 hF=>?_)
 ·have hG:=hF
  subst e9
  have hF:=hG
  refine Run.drawV (Ωs:=[(false,.lnk qd qd y1.2.1.d),(false,.slice 200 eventlog_record.rep u3 y1.2.1.records),(false,.box 166 (flash_Device.repW u4 u5) qd y1.2.2),(false,.slice 5 (Rep.int .u8) u4 y1.2.2.bytes),(false,.slice 3 (Rep.int .i64) u5 y1.2.2.wear),(false,.box 55 Event_.rep u1 a1)]) [.k 21 v0,.kr 22 v0 [0],.kr 23 (padd v0 4) [0],.kr 24 (.int .i64 y1.2.1.newest) [0],.k 25 (.bool (y1.2.1.newest==0)),.k 26 (.bool true),.k 27 undef,.k 28 undef,.k 29 undef,.k 30 undef,.k 31 undef,.k 32 undef,.k 33 undef,.k 34 undef,.k 35 undef,.k 36 undef] [[],[0],[1],[2],[3],[4],[5],[5],[5],[5],[5],[5],[5],[5],[5],[5]] [[(false,.box 169 (eventlog_Log.repW qd u3) v0 y1.2.1)]] [0,1,2,3,4,5,6,7,8,9,10,11,12,13,14,15,16] Try_mixed rfl rfl rfl h9 (.cons ?_ (.cons ?_ (.cons ?_ (.cons ?_ (.cons ?_ (.cons ?_ (.cons (dp λ _=>rfl) (.cons (dp λ _=>rfl) (.cons (dp λ _=>rfl) (.cons (dp λ _=>rfl) (.cons (dp λ _=>rfl) (.cons (dp λ _=>rfl) (.cons (dp λ _=>rfl) (.cons (dp λ _=>rfl) (.cons (dp λ _=>rfl) (.cons (dp λ _=>rfl) .nil)))))))))))))))) (λ q1 w hq1 h=>?_)
  ·intro q1 w Γx Ωx h
   refine OpS.mv rfl rfl rfl ?_
   exact du h
  ·intro q1 w Γx Ωx h
   refine OpS.nchk h .z rfl rfl rfl ?_
   exact du h
  ·intro q1 w Γx Ωx h
   refine OpS.fbox (o3:=4) h .z PA.z fa169_4 rfl rfl rfl rfl ?_
   exact du h
  ·intro q1 w Γx Ωx h
   refine OpS.loadBi h .z PA.a (GetS.ok (GetS.iso _ (GetS.there (GetS.there (GetS.there (GetS.there (GetS.here GetS.id))))))) ty3 rfl rfl rfl ?_
   exact du h
  ·intro q1 w Γx Ωx h
   refine OpS.bin rfl rfl rfl rfl rfl ?_
   exact du h
  ·intro q1 w Γx Ωx h
   refine OpS.mv rfl rfl rfl ?_
   exact ⟨undef,(congrArg (λ z_=>some (Value.bool z_)) e8),trivial,h⟩
  have h10:=h
  refine gp rfl (gk rfl (nil (Run.condT rfl ?_)))
  refine sr (gm rfl ?_)
  obtain ⟨y3,e10,hF⟩:=bindP_use hF
  have h11:=h10.front (.cons .z (.cons .z (.cons .z (.cons .z (.cons .z (.cons .z .nil))))))
  refine op (OpS.callO h11 Tryz.func86 rfl rfl rfl rfl (vs:=[v0]) rfl (eventlog_Log_grow_ok e10) rfl .nil ?_)
  rintro _ w4 _ _ _ ⟨u7,u8,u9,u10,rfl,rfl,rfl,rfl⟩ h12
  have h13:=h12
  simp only [ca,na] at h13
  refine ga rfl (nil (Run.slim [(6,.int .i64 y3.1),(3,u1),(0,v0)] ⟨rfl,rfl,rfl,trivial⟩ ?_))
  refine sr (gm rfl (gb rfl (nil ?_)))
  refine Run.ite rfl hF (λ e11 hF=>?_) (λ e11 hF=>?_)
  ·cases hF
  refine Run.skip (sr (gm rfl (op (OpS.nchk h13 .z rfl rfl rfl ?_))))
  refine op (OpS.fbox (o3:=7) h13 .z PA.z fa169_7 rfl rfl rfl rfl ?_)
  refine op (OpS.loadBi h13 .z PA.a (GetS.ok (GetS.iso _ (GetS.there (GetS.there (GetS.there (GetS.there (GetS.there (GetS.there (GetS.there (GetS.here GetS.id)))))))))) ty49 rfl rfl rfl ?_)
  refine op (OpS.fbox (o3:=0) h13 (.s (.s (.s (.s (.s (.s .z)))))) PA.z fa55_0 rfl rfl rfl rfl ?_)
  obtain ⟨d1,e12,hF⟩:=letP_use hF
  refine op (OpS.storeB (f':=true) h13 (.s (.s (.s (.s (.s (.s .z)))))) PA.a (Put.of (Put.fld Event_.f0) e12) ty49 rfl rfl rfl V.int (.inr rfl) (λ w5 h14=>?_))
  refine nil (sr (op (OpS.loadB h14 .z PA.z Get.id ty55 rfl rfl rfl (λ u11 h15=>?_))))
  obtain ⟨y4,e13,hF⟩:=bindP_use hF
  refine op (OpS.callP h15 Tryz.func87 rfl rfl rfl rfl (vs:=[u11]) rfl (event_Encode_ok e13) (.cons (f:=false) (V.at .z) .nil) ?_)
  rintro _ w6 _ _ _ ⟨u12,rfl,rfl,rfl,rfl⟩ h16
  have h17:=h16 rfl rfl
  simp only [ca,na] at h17
  refine gm rfl (op (OpS.ext rfl rfl rfl rfl ?_))
  refine op (OpS.ext rfl rfl rfl rfl ?_)
  refine ga rfl (ga rfl (nil (Run.seq ?_)))
  obtain ⟨e14,hF⟩:=chk_use hF
  obtain ⟨e15,h18⟩:=St.attach (h17.pick (.s (.s (.s .z)))) e14
  subst e15
  have h19:=h18.picks (.cons .z (.cons (.s (.s .z)) (.cons (.s (.s (.s .z))) (.cons (.s (.s (.s .z))) (.cons (.s (.s (.s .z))) (.cons .z (.cons .z (.cons .z .nil))))))))
  obtain ⟨e16,hF⟩:=chk_use hF
  obtain ⟨y5,e17,hF⟩:=bindP_use hF
  refine Run.drawV (Ωs:=[(true,.slice 5 (Rep.int .u8) u12 y4.1),(false,.box 55 Event_.rep u1 d1),(false,.slice 200 eventlog_record.rep u8 y3.2.1.records)]) [.k 56 v0,.kr 57 v0 [1],.kr 58 (padd v0 1) [1],.kr 59 (.int .i64 y3.2.1.first) [1],.k 60 v0,.kr 61 v0 [1],.kr 62 (padd v0 4) [1],.kr 63 (.int .i64 y3.2.1.newest) [1],.k 64 (.int .i64 (IntKind.i64.wrap (y3.2.1.newest-1))),.k 65 v0,.kr 66 v0 [1],.kr 67 (padd v0 2) [1],.kr 68 (.int .i64 y3.2.1.sectors) [1],.k 69 (.int .i64 (Int.tmod (IntKind.i64.wrap (y3.2.1.newest-1)) y3.2.1.sectors)),.k 70 (.int .i64 (IntKind.i64.wrap (y3.2.1.first+(Int.tmod (IntKind.i64.wrap (y3.2.1.newest-1)) y3.2.1.sectors)))),.k 71 v0,.kr 72 v0 [1],.kr 73 (padd v0 0) [1],.kr 74 qd [1,0],.kr 75 (.int .i64 y5) [2,3,4],.k 76 (.int .i64 (IntKind.i64.wrap ((IntKind.i64.wrap (y3.2.1.first+(Int.tmod (IntKind.i64.wrap (y3.2.1.newest-1)) y3.2.1.sectors)))*y5))),.k 77 (.int .i64 (IntKind.i64.wrap ((IntKind.i64.wrap ((IntKind.i64.wrap (y3.2.1.first+(Int.tmod (IntKind.i64.wrap (y3.2.1.newest-1)) y3.2.1.sectors)))*y5))+11))),.k 78 v0,.kr 79 v0 [1],.kr 80 (padd v0 6) [1],.kr 81 (.int .i64 y3.2.1.used) [1],.k 82 (.int .i64 (IntKind.i64.wrap (y3.2.1.used*17)))] [[],[0],[1],[2],[],[4],[5],[6],[7],[],[9],[10],[11],[8,12],[3,13],[],[15],[16],[17],[18],[14,19],[20],[],[22],[23],[24],[25]] [[(false,.lnk qd qd y3.2.1.d)],[(false,.box 169 (eventlog_Log.repW qd u8) v0 y3.2.1)],[(false,.box 166 (flash_Device.repW u9 u10) qd y3.2.2)],[(false,.slice 5 (Rep.int .u8) u9 y3.2.2.bytes)],[(false,.slice 3 (Rep.int .i64) u10 y3.2.2.wear)]] [0,1,2,3,4,5,6,7,8,9,10,11,12,13,14,15,16,17,18,19,20,21,22,23,24,25,26,27,28,29,30,31] Try_mixed rfl rfl rfl h19 (.cons ?_ (.cons ?_ (.cons ?_ (.cons ?_ (.cons ?_ (.cons ?_ (.cons ?_ (.cons ?_ (.cons ?_ (.cons ?_ (.cons ?_ (.cons ?_ (.cons ?_ (.cons ?_ (.cons ?_ (.cons ?_ (.cons ?_ (.cons ?_ (.cons ?_ (.cons ?_ (.cons ?_ (.cons ?_ (.cons ?_ (.cons ?_ (.cons ?_ (.cons ?_ (.cons ?_ .nil))))))))))))))))))))))))))) (λ q2 w hq2 h=>?_)
  ·intro q2 w Γx Ωx h
   refine OpS.mv rfl rfl rfl ?_
   exact du h
  ·intro q2 w Γx Ωx h
   refine OpS.nchk h .z rfl rfl rfl ?_
   exact du h
  ·intro q2 w Γx Ωx h
   refine OpS.fbox (o3:=1) h .z PA.z fa169_1 rfl rfl rfl rfl ?_
   exact du h
  ·intro q2 w Γx Ωx h
   refine OpS.loadBi h .z PA.a (GetS.ok (GetS.iso _ (GetS.there (GetS.here GetS.id)))) ty3 rfl rfl rfl ?_
   exact du h
  ·intro q2 w Γx Ωx h
   refine OpS.mv rfl rfl rfl ?_
   exact du h
  ·intro q2 w Γx Ωx h
   refine OpS.nchk h .z rfl rfl rfl ?_
   exact du h
  ·intro q2 w Γx Ωx h
   refine OpS.fbox (o3:=4) h .z PA.z fa169_4 rfl rfl rfl rfl ?_
   exact du h
  ·intro q2 w Γx Ωx h
   refine OpS.loadBi h .z PA.a (GetS.ok (GetS.iso _ (GetS.there (GetS.there (GetS.there (GetS.there (GetS.here GetS.id))))))) ty3 rfl rfl rfl ?_
   exact du h
  ·intro q2 w Γx Ωx h
   refine OpS.bin rfl rfl rfl rfl rfl ?_
   exact du h
  ·intro q2 w Γx Ωx h
   refine OpS.mv rfl rfl rfl ?_
   exact du h
  ·intro q2 w Γx Ωx h
   refine OpS.nchk h .z rfl rfl rfl ?_
   exact du h
  ·intro q2 w Γx Ωx h
   refine OpS.fbox (o3:=2) h .z PA.z fa169_2 rfl rfl rfl rfl ?_
   exact du h
  ·intro q2 w Γx Ωx h
   refine OpS.loadBi h .z PA.a (GetS.ok (GetS.iso _ (GetS.there (GetS.there (GetS.here GetS.id))))) ty3 rfl rfl rfl ?_
   exact du h
  ·intro q2 w Γx Ωx h
   refine OpS.rem rfl rfl rfl rfl e16 ?_
   exact du h
  ·intro q2 w Γx Ωx h
   refine OpS.bin rfl rfl rfl rfl rfl ?_
   exact du h
  ·intro q2 w Γx Ωx h
   refine OpS.mv rfl rfl rfl ?_
   exact du h
  ·intro q2 w Γx Ωx h
   refine OpS.nchk h .z rfl rfl rfl ?_
   exact du h
  ·intro q2 w Γx Ωx h
   refine OpS.fbox (o3:=0) h .z PA.z fa169_0 rfl rfl rfl rfl ?_
   exact du h
  ·intro q2 w Γx Ωx h
   refine OpS.loadR h .z PA.a (GetS.ok (GetS.iso _ (GetS.here GetS.id))) ty31 rfl rfl rfl rfl rfl ?_
   exact du h
  ·intro q2 w Γx Ωx h
   have h23:=h.front (.cons .z (.cons .z (.cons .z .nil)))
   refine OpS.callO h23 Tryz.func71 rfl rfl rfl rfl (vs:=[qd]) rfl (flash_Device_Size_ok e17) rfl .nil ?_
   rintro _ w8 _ _ _ ⟨rfl,rfl,rfl,rfl⟩ h24
   have h25:=h24
   simp only [ca,na] at h25
   exact ⟨undef,rfl,trivial,h25⟩
  ·intro q2 w Γx Ωx h
   refine OpS.bin rfl rfl rfl rfl rfl ?_
   exact du h
  ·intro q2 w Γx Ωx h
   refine OpS.bin rfl rfl rfl rfl rfl ?_
   exact du h
  ·intro q2 w Γx Ωx h
   refine OpS.mv rfl rfl rfl ?_
   exact du h
  ·intro q2 w Γx Ωx h
   refine OpS.nchk h .z rfl rfl rfl ?_
   exact du h
  ·intro q2 w Γx Ωx h
   refine OpS.fbox (o3:=6) h .z PA.z fa169_6 rfl rfl rfl rfl ?_
   exact du h
  ·intro q2 w Γx Ωx h
   refine OpS.loadBi h .z PA.a (GetS.ok (GetS.iso _ (GetS.there (GetS.there (GetS.there (GetS.there (GetS.there (GetS.there (GetS.here GetS.id))))))))) ty3 rfl rfl rfl ?_
   exact du h
  ·intro q2 w Γx Ωx h
   refine OpS.bin rfl rfl rfl rfl rfl ?_
   exact du h
  have h26:=h
  refine gb rfl (ga rfl ?_)
  obtain ⟨x2,e18,hF⟩:=letP_use hF
  refine RunL.name e18 ?_
  refine nil (Run.slim [(9,.int .i64 x2),(7,u12),(3,u1),(0,v0)] ⟨rfl,rfl,rfl,rfl,trivial⟩ ?_)
  refine Run.seq (Run.seq ?_)
  have h27:=h26.picks (.cons .z (.cons .z (.cons (.s (.s (.s .z))) (.cons .z (.cons .z (.cons .z (.cons .z (.cons .z .nil))))))))
  obtain ⟨x3,e19,hF⟩:=bindP_use hF
  refine Run.drawV (Ωs:=[(false,.box 166 (flash_Device.repW u9 u10) qd y3.2.2),(false,.slice 5 (Rep.int .u8) u9 y3.2.2.bytes),(false,.slice 3 (Rep.int .i64) u10 y3.2.2.wear),(false,.box 55 Event_.rep u1 d1),(false,.slice 200 eventlog_record.rep u8 y3.2.1.records)]) [.k 84 v0,.kr 85 v0 [1],.kr 86 (padd v0 0) [1],.kr 87 qd [1,0],.k 88 (.int .i64 x2),.k 89 u12,.f 90 (λ u_=>[(true,.val (Rep.slice (Rep.int .u8)) u_ ([0]))]),⟨some 91,none,λ u_=>[],λ ds_ u_=>[(true,.slice 5 (Rep.int .u8) u_ x3)],[2],[],none⟩] [[],[0],[1],[2],[],[],[],[5,6]] [[(false,.lnk qd qd y3.2.1.d)],[(false,.box 169 (eventlog_Log.repW qd u8) v0 y3.2.1)],[(true,.slice 5 (Rep.int .u8) u12 y4.1)]] [0,1,3,4,5,6,7,8,9,10] Try_mixed rfl rfl rfl h27 (.cons ?_ (.cons ?_ (.cons ?_ (.cons ?_ (.cons ?_ (.cons ?_ (.cons ?_ (.cons ?_ .nil)))))))) (λ q3 w hq3 h=>?_)
  ·intro q3 w Γx Ωx h
   refine OpS.mv rfl rfl rfl ?_
   exact du h
  ·intro q3 w Γx Ωx h
   refine OpS.nchk h .z rfl rfl rfl ?_
   exact du h
  ·intro q3 w Γx Ωx h
   refine OpS.fbox (o3:=0) h .z PA.z fa169_0 rfl rfl rfl rfl ?_
   exact du h
  ·intro q3 w Γx Ωx h
   refine OpS.loadR h .z PA.a (GetS.ok (GetS.iso _ (GetS.here GetS.id))) ty31 rfl rfl rfl rfl rfl ?_
   exact du h
  ·intro q3 w Γx Ωx h
   refine OpS.mv rfl rfl rfl ?_
   exact du h
  ·intro q3 w Γx Ωx h
   refine OpS.mv rfl rfl rfl ?_
   exact du h
  ·intro q3 w Γx Ωx h
   refine OpS.lit (r:=(Rep.int .u8)) (f:=true) h Tryz.underlying24 ti5 rfl rfl rfl rfl rfl (.cons rfl V.int .nil) rfl rfl (λ u w11 h30=>?_)
   exact ⟨u,rfl,trivial,h30⟩
  ·intro q3 w Γx Ωx h
   refine OpS.app (f':=true) h .z Tryz.underlying24 ti5 rfl rfl rfl rfl rfl rfl rfl (V.at .z) (.inr Pure.int) e19 (λ u w12 h31=>?_)
   exact ⟨u,rfl,trivial,h31⟩
  have h32:=h
  have h33:=(h32.pick (.s (.s .z))).freeze
  obtain ⟨y6,e20,hF⟩:=bindP_use hF
  have h34:=h33.front (.cons (.s (.s .z)) (.cons (.s (.s .z)) (.cons (.s (.s .z)) .nil)))
  refine op (OpS.callO h34 Tryz.func88 rfl rfl rfl rfl (vs:=[qd,.int .i64 x2,(q3 7)]) rfl (flash_Device_Program_ok e20) rfl (.cons (f:=true) (V.at .z) .nil) ?_)
  rintro _ w13 _ _ _ ⟨u13,u14,rfl,rfl,rfl,rfl⟩ h35
  have h36:=h35
  simp only [ca,na] at h36
  refine ga rfl (nil (sr (gm rfl (gb rfl (nil ?_)))))
  refine Run.ite rfl hF (λ e21 hF=>?_) (λ e21 hF=>?_)
  ·cases hF
  refine Run.skip (Run.seq ?_)
  have h37:=h36.picks (.cons (.s (.s (.s (.s .z)))) (.cons (.s (.s (.s (.s .z)))) (.cons (.s (.s (.s (.s .z)))) (.cons .z (.cons .z (.cons .z (.cons .z .nil)))))))
  obtain ⟨x4,e22,hF⟩:=bindP_use hF
  refine Run.drawV (Ωs:=[(false,.box 166 (flash_Device.repW u13 u14) qd y6.2),(false,.slice 5 (Rep.int .u8) u13 y6.2.bytes),(false,.slice 3 (Rep.int .i64) u14 y6.2.wear),(false,.lnk qd qd y3.2.1.d)]) [.k 98 v0,.k 99 v0,.kr 100 v0 [0],.kr 101 (padd v0 8) [0],.kr 102 u8 [0],.k 103 v0,.kr 104 v0 [0],.kr 105 (padd v0 4) [0],.kr 106 (.int .i64 y3.2.1.newest) [0],.fr 107 (λ u_=>[(false,.val Event_.rep u_ d1)]) [1],.f 108 (λ u_=>[(false,.val eventlog_record.rep u_ (⟨y3.2.1.newest,d1⟩:eventlog_record))]),.f 109 (λ u_=>[(false,.val (Rep.slice eventlog_record.rep) u_ ([(⟨y3.2.1.newest,d1⟩:eventlog_record)]))]),⟨some 110,none,λ u_=>[],λ ds_ u_=>[(false,.slice 200 eventlog_record.rep u_ x4)],[2],[],none⟩] [[],[],[1],[2],[3],[],[5],[6],[7],[],[8,9],[10],[4,11]] [[(false,.box 169 (eventlog_Log.repW qd u8) v0 y3.2.1)],[(false,.box 55 Event_.rep u1 d1)],[(false,.slice 200 eventlog_record.rep u8 y3.2.1.records)]] [0,1,3,4,5,6,7,8,9,10,11,12,13,14,15] Try_mixed rfl rfl rfl h37 (.cons ?_ (.cons ?_ (.cons ?_ (.cons ?_ (.cons ?_ (.cons ?_ (.cons ?_ (.cons ?_ (.cons ?_ (.cons ?_ (.cons ?_ (.cons ?_ (.cons ?_ .nil))))))))))))) (λ q4 w hq4 h=>?_)
  ·intro q4 w Γx Ωx h
   refine OpS.mv rfl rfl rfl ?_
   exact du h
  ·intro q4 w Γx Ωx h
   refine OpS.mv rfl rfl rfl ?_
   exact du h
  ·intro q4 w Γx Ωx h
   refine OpS.nchk h .z rfl rfl rfl ?_
   exact du h
  ·intro q4 w Γx Ωx h
   refine OpS.fbox (o3:=8) h .z PA.z fa169_8 rfl rfl rfl rfl ?_
   exact du h
  ·intro q4 w Γx Ωx h
   refine OpS.loadR h .z PA.a (GetS.ok (GetS.iso _ (GetS.there (GetS.there (GetS.there (GetS.there (GetS.there (GetS.there (GetS.there (GetS.there (GetS.here GetS.id))))))))))) ty167 rfl rfl rfl rfl rfl ?_
   exact du h
  ·intro q4 w Γx Ωx h
   refine OpS.mv rfl rfl rfl ?_
   exact du h
  ·intro q4 w Γx Ωx h
   refine OpS.nchk h .z rfl rfl rfl ?_
   exact du h
  ·intro q4 w Γx Ωx h
   refine OpS.fbox (o3:=4) h .z PA.z fa169_4 rfl rfl rfl rfl ?_
   exact du h
  ·intro q4 w Γx Ωx h
   refine OpS.loadBi h .z PA.a (GetS.ok (GetS.iso _ (GetS.there (GetS.there (GetS.there (GetS.there (GetS.here GetS.id))))))) ty3 rfl rfl rfl ?_
   exact du h
  ·intro q4 w Γx Ωx h
   refine OpS.loadB h .z PA.z Get.id ty55 rfl rfl rfl (λ u h42=>?_)
   exact ⟨u,rfl,trivial,h42⟩
  ·intro q4 w Γx Ωx h
   refine OpS.build (f:=false) (x':=(⟨y3.2.1.newest,d1⟩:eventlog_record)) h pl200 ti200 eventlog_record.zr rfl rfl rfl (.cons rfl eventlog_record.f0 rfl V.int (.cons rfl eventlog_record.f1 rfl (V.at .z) .nil)) (λ u h43=>?_)
   exact ⟨u,rfl,trivial,h43⟩
  ·intro q4 w Γx Ωx h
   refine OpS.lit (r:=eventlog_record.rep) (f:=false) h Tryz.underlying167 ti200 rfl rfl rfl rfl rfl (.cons rfl (V.at .z) .nil) rfl rfl (λ u w16 h44=>?_)
   exact ⟨u,rfl,trivial,h44⟩
  ·intro q4 w Γx Ωx h
   refine OpS.app (f':=false) h .z Tryz.underlying167 ti200 rfl rfl rfl rfl rfl rfl rfl (V.at .z) (.inr eventlog_record.pure) e22 (λ u w17 h45=>?_)
   exact ⟨u,rfl,trivial,h45⟩
  have h46:=h
  refine op (OpS.nchk h46 .z rfl rfl rfl ?_)
  refine op (OpS.fbox (o3:=8) h46 .z PA.z fa169_8 rfl rfl rfl rfl ?_)
  refine op (OpS.storeC (f':=false) (fr:=(Rep.raw (q4 12))) (r':=(eventlog_Log.repW qd (q4 12))) (x':=y3.2.1) h46 .z PA.a (Chg.iso _ (Chg.there (Chg.there (Chg.there (Chg.there (Chg.there (Chg.there (Chg.there (Chg.there (Chg.here (Chg.id (by rfl)))))))))))) (Ty.like ty167 (by rfl) (by rfl)) rfl rfl rfl (V.raw (f:=false) (St.own1 h46 (.s (.s .z))) y3.2.1.records) (.inr rfl) (λ w18 h47=>?_))
  refine nil (sr (gm rfl (op (OpS.nchk h47 .z rfl rfl rfl ?_))))
  refine op (OpS.fbox (o3:=6) h47 .z PA.z fa169_6 rfl rfl rfl rfl ?_)
  refine op (OpS.loadBi h47 .z PA.a (GetS.ok (GetS.iso _ (GetS.there (GetS.there (GetS.there (GetS.there (GetS.there (GetS.there (GetS.here GetS.id))))))))) ty3 rfl rfl rfl ?_)
  refine gb rfl (op (OpS.nchk h47 .z rfl rfl rfl ?_))
  refine op (OpS.fbox (o3:=6) h47 .z PA.z fa169_6 rfl rfl rfl rfl ?_)
  obtain ⟨d2,e23,hF⟩:=letP_use hF
  refine op (OpS.storeC (f':=true) (fr:=(Rep.int .i64)) (r':=(eventlog_Log.repW qd (q4 12))) (x':=d2) h47 .z PA.a (Chg.of (x':={ y3.2.1 with used:=(IntKind.i64.wrap (y3.2.1.used+1)) }) (Chg.iso _ (Chg.there (Chg.there (Chg.there (Chg.there (Chg.there (Chg.there (Chg.here (Chg.id (by rfl)))))))))) e23) ty3 rfl rfl rfl V.int (.inr rfl) (λ w19 h48=>?_))
  refine nil (Run.slim [(3,u1),(0,v0)] ⟨rfl,rfl,trivial⟩ ?_)
  refine sr (gm rfl (op (OpS.fbox (o3:=0) h48 (.s .z) PA.z fa55_0 rfl rfl rfl rfl ?_)))
  refine op (OpS.loadBi h48 (.s .z) PA.a (Get.fld Event_.f0) ty49 rfl rfl rfl ?_)
  obtain ⟨y7,e24,hF⟩:=bindP_use hF
  refine op (OpS.callP h48 Tryz.func89 rfl rfl rfl rfl (vs:=[.int .u16 d1.ID]) rfl (eventlog_behind_ok e24) .nil ?_)
  rintro _ w20 _ _ _ ⟨rfl,rfl,rfl,rfl⟩ h49
  have h50:=h49 rfl rfl
  simp only [ca,na] at h50
  refine op (OpS.nchk h50 .z rfl rfl rfl ?_)
  refine op (OpS.fbox (o3:=7) h50 .z PA.z fa169_7 rfl rfl rfl rfl ?_)
  obtain ⟨d3,e25,hF⟩:=letP_use hF
  refine op (OpS.storeC (f':=true) (fr:=(Rep.int .u16)) (r':=(eventlog_Log.repW qd (q4 12))) (x':=d3) h50 .z PA.a (Chg.of (x':={ d2 with next:=y7 }) (Chg.iso _ (Chg.there (Chg.there (Chg.there (Chg.there (Chg.there (Chg.there (Chg.there (Chg.here (Chg.id (by rfl))))))))))) e25) ty49 rfl rfl rfl V.int (.inr rfl) (λ w21 h51=>?_))
  refine nil (sr (op (OpS.fbox (o3:=0) h51 (.s .z) PA.z fa55_0 rfl rfl rfl rfl ?_)))
  refine op (OpS.loadBi h51 (.s .z) PA.a (Get.fld Event_.f0) ty49 rfl rfl rfl ?_)
  refine ga rfl (ga rfl (nil ?_))
  have h52:=St.boxJ (r':=(eventlog_Log.repW qd (q4 12))) (x':={ { d3 with d:=y3.2.1.d } with records:=x4 }) (h51.pick .z) (λ _ _ hs_=>(Jn.iso _ (Jn.prod Jn.same (Jn.prod Jn.refl (Jn.prod Jn.refl (Jn.prod Jn.refl (Jn.prod Jn.refl (Jn.prod Jn.refl (Jn.prod Jn.refl (Jn.prod Jn.refl (Jn.prod Jn.same Jn.refl)))))))))))
  refine Run.retP rfl (.tmp rfl (.tmp rfl .nil)) ?_
  cases hF
  exact Post.mk' ⟨qd,(q4 12),u13,u14,rfl,rfl,rfl,rfl⟩ (h52.picks (.cons .z (.cons (.s (.s (.s (.s (.s .z))))) (.cons (.s .z) (.cons (.s .z) (.cons (.s .z) (.cons (.s .z) .nil))))))) .nil
 cases hF
theorem eventlog_Log_Len_ok {fuel:Nat} {a0:eventlog_Log} {y:Int} (hF:eventlog_Log_Len fuel a0=some y) {w:World} {v0 v0_0 qd v0_1:Value} :
  Spec Tryz.prog 26 [v0].toArray w [] [(false,.box 169 (eventlog_Log.repW v0_0 v0_1) v0 a0),(false,.lnk qd v0_0 a0.d),(false,.slice 200 eventlog_record.rep v0_1 a0.records)] (λ v Γr Ωr Ωo=>v=.int .i64 y∧Γr=[]∧Ωr=[]∧Ωo=[(false,.box 169 (eventlog_Log.repW v0_0 v0_1) v0 a0),(false,.lnk qd v0_0 a0.d),(false,(.slice 200 eventlog_record.rep v0_1 a0.records))]):=by
 refine Spec.of (L:=[(0,v0)]) Tryz.func26 rfl ⟨rfl,trivial⟩ rfl (λ e h=>?_)
 unfold eventlog_Log_Len at hF
 refine sr (ga rfl (nil (sr (gm rfl (op (OpS.nchk h .z rfl rfl rfl ?_))))))
 refine op (OpS.fbox (o3:=8) h .z PA.z fa169_8 rfl rfl rfl rfl ?_)
 refine op (OpS.loadR h .z PA.a (GetS.ok (GetS.iso _ (GetS.there (GetS.there (GetS.there (GetS.there (GetS.there (GetS.there (GetS.there (GetS.there (GetS.here GetS.id))))))))))) ty167 rfl rfl rfl rfl rfl ?_)
 refine op (OpS.lenO h (.s (.s .z)) Tryz.underlying167 rfl rfl rfl ?_)
 refine ga rfl ?_
 obtain ⟨x1,e1,hF⟩:=letP_use hF
 refine RunL.name e1 ?_
 refine nil (Run.retP rfl (.tmp rfl .nil) ?_)
 cases hF
 exact Post.mk' ⟨rfl,rfl,rfl,rfl⟩ (h.picks (.cons .z (.cons .z (.cons .z .nil)))) .nil
set_option maxRecDepth 20000 in
theorem top_first_ok {fuel:Nat}  {y:Bool} (hF:top_first fuel =some y) {w:World} :
  Spec Tryz.prog 9 [].toArray w [GqC] [] (λ v Γr Ωr Ωo=>v=.bool y∧Γr=[]∧Ωr=[]∧Ωo=[]):=by
 refine Spec.of (L:=[]) Tryz.func9 rfl trivial rfl (λ e h=>?_)
 unfold top_first at hF
 refine sr (ga rfl (nil (sr (op (OpS.build (f:=true) (x':=(⟨1,false,1,0,0,0,[]⟩:Conversion_)) h pl69 ti69 Conversion_.zr rfl rfl rfl (.cons rfl Conversion_.f0 rfl V.int (.cons rfl Conversion_.f2 rfl V.int .nil)) (λ u1 h1=>?_))))))
 refine op (OpS.buildG (f:=true) (r:=(Rep.int .u8)) (xs:=(upd (List.replicate 6 0) (3:Int) 80)) h1 Tryz.underlying70 ti5 rfl ti70 (Zr.of (Zr.arr (Zr.int .u8 0) 6) rfl) rfl rfl (.cons (by rfl) rfl V.int .nil) (λ u2 h2=>?_))
 refine op (OpS.build (f:=true) (x':=(⟨8,(upd (List.replicate 6 0) (3:Int) 80)⟩:Thresholds_)) h2 pl72 ti72 Thresholds_.zr rfl rfl rfl (.cons rfl Thresholds_.f0 rfl V.int (.cons rfl Thresholds_.f1 rfl (V.at .z) .nil)) (λ u3 h3=>?_))
 refine op (OpS.build (f:=true) (x':=(⟨1,1,0,[116],Entity_.z,false,(⟨1,false,1,0,0,0,[]⟩:Conversion_),(⟨8,(upd (List.replicate 6 0) (3:Int) 80)⟩:Thresholds_),0,0,0,8,0,false,1⟩:Sensor_)) h3 pl74 ti74 Sensor_.zr rfl rfl rfl (.cons rfl Sensor_.f0 rfl V.int (.cons rfl Sensor_.f1 rfl V.int (.cons rfl Sensor_.f3 rfl (V.str (f:=true)) (.cons rfl Sensor_.f14 rfl V.int (.cons rfl Sensor_.f6 rfl (V.at (.s (.s .z))) (.cons rfl Sensor_.f7 rfl (V.at .z) (.cons rfl Sensor_.f11 rfl V.int .nil))))))) (λ u4 h4=>?_))
 refine op (OpS.alloc h4 ti74 Sensor_.zr rfl rfl (λ u5 w1 h5=>?_))
 refine op (OpS.storeB (f':=true) h5 .z PA.z Put.id ty74 rfl rfl rfl (V.at .z) (.inl rfl) (λ w2 h6=>?_))
 refine nil (sr (op (OpS.loadB h6 .z PA.z Get.id ty74 rfl rfl rfl (λ u6 h7=>?_))))
 refine op (OpS.lit (r:=Sensor_.rep) (f:=true) h7 Tryz.underlying27 ti74 rfl rfl rfl rfl rfl (.cons rfl (V.at .z) .nil) rfl rfl (λ u7 w3 h8=>?_))
 obtain ⟨y1,e1,hF⟩:=bindP_use hF
 have h9:=h8.front .nil
 refine op (OpS.callO h9 Tryz.func30 rfl rfl rfl rfl (vs:=[u7,.slice none 0 0]) rfl (monitor_New_ok e1) rfl (.cons (f:=true) (V.at .z) (.cons (f:=true) V.nil .nil)) ?_)
 rintro _ w4 _ _ _ ⟨u8,rfl,rfl,rfl,rfl⟩ h10
 have h11:=h10
 simp only [ca,na] at h11
 refine gm rfl (op (OpS.ext rfl rfl rfl rfl ?_))
 refine op (OpS.ext rfl rfl rfl rfl ?_)
 refine ga rfl (ga rfl (nil (sr ?_)))
 obtain ⟨y2,e2,hF⟩:=bindP_use hF
 refine op (OpS.callP h11 Tryz.func13 rfl rfl rfl rfl (vs:=[.int .i64 2,.int .i64 64]) rfl (flash_New_ok e2) .nil ?_)
 rintro _ w5 _ _ _ ⟨u9,rfl,rfl,rfl,rfl⟩ h12
 have h13:=h12 rfl rfl
 simp only [ca,na] at h13
 refine gm rfl (op (OpS.ext rfl rfl rfl rfl ?_))
 refine op (OpS.ext rfl rfl rfl rfl ?_)
 refine ga rfl (ga rfl (nil (Run.seq (sr (gm rfl (op (OpS.onilE2 h13 (.s .z) (λ _=>PtrOf.ex λ _=>PtrOf.ex λ _=>PtrOf.sep PtrOf.box) Tryz.underlying38 rfl rfl rfl rfl ?_)))))))
 refine gm rfl ?_
 refine RunL.caseb hF (λ e3 hF=>?_) (λ e3 hF=>?_)
 ·cases hF
 refine gm rfl (op (OpS.onilE2 h13 .z (λ _=>PtrOf.ex λ _=>PtrOf.ex λ _=>PtrOf.sep PtrOf.box) Tryz.underlying31 rfl rfl rfl rfl ?_))
 refine gk rfl (gm rfl ?_)
 refine RunL.caseb hF (λ e4 hF=>?_) (λ e4 hF=>?_)
 ·cases hF
 refine gm rfl (gb rfl (gk rfl (gm rfl ?_)))
 refine RunL.caseb hF (λ e5 hF=>?_) (λ e5 hF=>?_)
 ·cases hF
 refine gm rfl (gb rfl (gk rfl (nil (Run.slim [(39,.bool (y2.2 != 0)),(4,u9),(2,u8)] ⟨rfl,rfl,rfl,trivial⟩ ?_))))
 refine Run.ite rfl hF (λ e6 hF=>?_) (λ e6 hF=>?_)
 ·cases hF
 refine Run.skip (sr (gm rfl ?_))
 obtain ⟨x1,e7,hF⟩:=bindP_use hF
 have h14:=St.unopt (h13.pick .z) e7
 obtain ⟨u10,h15⟩:=h14.unex
 obtain ⟨u11,h16⟩:=h15.unex
 have h17:=h16.unsep
 have h18:=(h17.pick (.s .z)).unsep
 obtain ⟨y3,e8,hF⟩:=bindP_use hF
 have h19:=(h18.pick (.s (.s .z))).weak
 have h20:=(h19.pick (.s .z)).weak
 have h21:=(h20.pick (.s (.s .z))).weak
 have h22:=h21.front (.cons (.s (.s .z)) (.cons (.s .z) (.cons .z .nil)))
 refine op (OpS.callO h22 Tryz.func14 rfl rfl rfl rfl (vs:=[u9,.int .i64 0,.int .i64 2,.bool false]) rfl (eventlog_Open_ok e8) rfl .nil ?_)
 rintro _ w6 _ _ _ ⟨u12,rfl,rfl,rfl,rfl⟩ h23
 have h24:=h23
 simp only [ca,na] at h24
 refine gm rfl (op (OpS.ext rfl rfl rfl rfl ?_))
 refine op (OpS.ext rfl rfl rfl rfl ?_)
 refine ga rfl (ga rfl (nil (sr (gm rfl (op (OpS.build (f:=true) (x':=(⟨1,true,80,0⟩:Sample_)) h24 pl93 ti93 Sample_.zr rfl rfl rfl (.cons rfl Sample_.f0 rfl V.int (.cons rfl Sample_.f1 rfl V.bool (.cons rfl Sample_.f2 rfl V.int .nil))) (λ u13 h25=>?_)))))))
 refine op (OpS.lit (r:=Sample_.rep) (f:=true) h25 Tryz.underlying41 ti93 rfl rfl rfl rfl rfl (.cons rfl (V.at .z) .nil) rfl rfl (λ u14 w7 h26=>?_))
 obtain ⟨x2,e9,hF⟩:=bindP_use hF
 have h27:=St.unopt (h26.pick (.s (.s (.s (.s .z))))) e9
 obtain ⟨u15,h28⟩:=h27.unex
 obtain ⟨u16,h29⟩:=h28.unex
 have h30:=h29.unsep
 have h31:=(h30.pick (.s .z)).unsep
 obtain ⟨y4,e10,hF⟩:=bindP_use hF
 have h32:=h31.front (.cons (.s (.s .z)) (.cons .z (.cons .z .nil)))
 refine op (OpS.callO h32 Tryz.func20 rfl rfl rfl rfl (vs:=[u8,u14,.slice none 0 0,.bool true]) rfl (monitor_Monitor_Scan_ok e10) rfl (.cons (f:=true) (V.at .z) (.cons (f:=true) V.nil (.ptr (.s (.s (.s (.s (.s (.s (.s (.s .z)))))))) .nil))) ?_)
 rintro _ w8 _ _ _ ⟨u17,u18,u19,rfl,rfl,rfl,rfl⟩ h33
 have h34:=h33
 simp only [ca,na] at h34
 refine gm rfl (op (OpS.ext rfl rfl rfl rfl ?_))
 refine op (OpS.ext rfl rfl rfl rfl ?_)
 refine ga rfl ?_
 have h35:=(h34.pick .z).freeze
 refine ga rfl (nil (Run.seq (sr (gm rfl (op (OpS.onilE2 h35 (.s (.s (.s .z))) (λ _=>PtrOf.ex λ _=>PtrOf.ex λ _=>PtrOf.sep PtrOf.box) Tryz.underlying35 rfl rfl rfl rfl ?_))))))
 refine gm rfl ?_
 refine RunL.caseb hF (λ e11 hF=>?_) (λ e11 hF=>?_)
 ·cases hF
 refine gm rfl (gb rfl (gk rfl (gm rfl ?_)))
 refine RunL.caseb hF (λ e12 hF=>?_) (λ e12 hF=>?_)
 ·cases hF
 refine gm rfl (gb rfl (gk rfl (gm rfl ?_)))
 refine RunL.caseb hF (λ e13 hF=>?_) (λ e13 hF=>?_)
 ·cases hF
 refine gm rfl (op (OpS.len h35 Tryz.underlying40 rfl rfl rfl (V.at .z) ?_))
 refine gb rfl (gk rfl (nil (Run.slim [(66,.bool ((y4.1.length:Int) != 1)),(8,u17),(6,u12)] ⟨rfl,rfl,rfl,trivial⟩ ?_)))
 refine Run.ite rfl hF (λ e14 hF=>?_) (λ e14 hF=>?_)
 ·cases hF
 refine Run.skip (sr (gm rfl (gm rfl ?_)))
 obtain ⟨x3,e15,hF⟩:=bindP_use hF
 refine op (OpS.iptr h35 Tryz.underlying40 ty55 rfl rfl rfl rfl (V.at .z) e15 (λ u20 h36=>?_))
 refine op (OpS.load h36 ty55 rfl rfl rfl .z (λ u21 h37=>?_))
 obtain ⟨x4,e16,hF⟩:=bindP_use hF
 have h38:=St.unopt (h37.pick (.s (.s (.s .z)))) e16
 obtain ⟨u22,h39⟩:=h38.unex
 obtain ⟨u23,h40⟩:=h39.unex
 have h41:=h40.unsep
 have h42:=(h41.pick (.s .z)).unsep
 obtain ⟨y5,e17,hF⟩:=bindP_use hF
 have h43:=h42.front (.cons (.s (.s .z)) (.cons .z (.cons .z (.cons (.s (.s (.s .z))) (.cons (.s (.s (.s .z))) (.cons (.s (.s (.s .z))) .nil))))))
 refine op (OpS.callO h43 Tryz.func21 rfl rfl rfl rfl (vs:=[u12,u21]) rfl (eventlog_Log_Add_ok e17) rfl (.cons (f:=true) (V.at .z) .nil) ?_)
 rintro _ w9 _ _ _ ⟨u24,u25,u26,u27,rfl,rfl,rfl,rfl⟩ h44
 have h45:=h44
 simp only [ca,na] at h45
 refine gm rfl (op (OpS.ext rfl rfl rfl rfl ?_))
 refine op (OpS.ext rfl rfl rfl rfl ?_)
 refine ga rfl (ga rfl (nil (sr (gm rfl (gb rfl (gm rfl ?_))))))
 refine RunL.caseb hF (λ e18 hF=>?_) (λ e18 hF=>?_)
 ·refine gm rfl (gb rfl (gk rfl (gm rfl ?_)))
  refine RunL.caseb hF (λ e19 hF=>?_) (λ e19 hF=>?_)
  ·refine gm rfl ?_
   obtain ⟨y6,e20,hF⟩:=bindP_use hF
   have h46:=h45.front (.cons .z (.cons .z (.cons .z .nil)))
   refine op (OpS.callO h46 Tryz.func26 rfl rfl rfl rfl (vs:=[u12]) rfl (eventlog_Log_Len_ok e20) rfl .nil ?_)
   rintro _ w10 _ _ _ ⟨rfl,rfl,rfl,rfl⟩ h47
   have h48:=h47
   simp only [ca,na] at h48
   refine gb rfl (gk rfl (ga rfl ?_))
   obtain ⟨x5,e21,hF⟩:=letP_use hF
   refine RunL.nameb e21 ?_
   refine nil (Run.retP rfl (.tmp rfl .nil) ?_)
   cases hF
   exact Post.mk' ⟨rfl,rfl,rfl,rfl⟩ (h48.picks .nil) .nil
  cases hF
 cases hF
theorem made_Light_ok {fuel:Nat} {a0:List Int} {y:Bool} (hF:made_Light fuel a0=some y) {w:World} {v0:Value} :
  Spec Tryz.prog 10 [v0].toArray w [(false,.val (Rep.slice (Rep.int .i64)) v0 a0)] [] (λ v Γr Ωr Ωo=>v=.bool y∧Γr=[]∧Ωr=[]∧Ωo=[]):=by
 refine Spec.of (L:=[(0,v0)]) Tryz.func10 rfl ⟨rfl,trivial⟩ rfl (λ e h=>?_)
 unfold made_Light at hF
 refine sr (ga rfl (nil (sr (gm rfl (op (OpS.len h Tryz.underlying22 rfl rfl rfl (V.at .z) ?_))))))
 refine gb rfl (ga rfl ?_)
 obtain ⟨x1,e1,hF⟩:=letP_use hF
 refine RunL.nameb e1 ?_
 refine nil (Run.retP rfl (.tmp rfl .nil) ?_)
 cases hF
 exact Post.mk' ⟨rfl,rfl,rfl,rfl⟩ (h.picks .nil) .nil
theorem made_Roll_ok {fuel:Nat} {a0:List Int} {y:made_Dice} (hF:made_Roll fuel a0=some y) {w:World} {v0:Value} :
  Spec Tryz.prog 12 [v0].toArray w [(false,.val (Rep.slice (Rep.int .i64)) v0 a0)] [] (λ v Γr Ωr Ωo=>∃ u0:Value,v=u0∧Γr=[]∧Ωr=[(false,.box 163 made_Dice.rep u0 y)]∧Ωo=[]):=by
 refine Spec.of (L:=[(0,v0)]) Tryz.func12 rfl ⟨rfl,trivial⟩ rfl (λ e h=>?_)
 unfold made_Roll at hF
 refine sr (ga rfl (nil (sr (gm rfl (op (OpS.build (f:=false) (x':=(⟨a0,0⟩:made_Dice)) h pl163 ti163 made_Dice.zr rfl rfl rfl (.cons rfl made_Dice.f0 rfl (V.at .z) .nil) (λ u1 h1=>?_)))))))
 refine op (OpS.boxF h1 rfl rfl rfl (V.at .z) (λ u2 w1 h2=>?_))
 refine ga rfl (nil (Run.retP rfl (.tmp rfl .nil) ?_))
 cases hF
 exact Post.mk' ⟨u2,rfl,rfl,rfl,rfl⟩ (h2.picks (.cons .z .nil)) .nil
theorem made_Mod_ok {fuel:Nat} {a0:Int} {a1:Int} {y:Int} (hF:made_Mod fuel a0 a1=some y) {w:World} :
  Spec Tryz.prog 19 [.int .i64 a0,.int .i64 a1].toArray w [] [] (λ v Γr Ωr Ωo=>v=.int .i64 y∧Γr=[]∧Ωr=[]∧Ωo=[]):=by
 refine Spec.of (L:=[(0,.int .i64 a0),(1,.int .i64 a1)]) Tryz.func19 rfl ⟨rfl,rfl,trivial⟩ rfl (λ e h=>?_)
 unfold made_Mod at hF
 refine sr (ga rfl (nil (sr (gm rfl (gm rfl ?_)))))
 obtain ⟨e1,hF⟩:=chk_use hF
 refine op (OpS.rem rfl rfl rfl rfl e1 ?_)
 refine ga rfl (nil (Run.seq (sr (gm rfl (gb rfl (nil ?_))))))
 refine Run.ite rfl hF (λ e2 hF=>?_) (λ e2 hF=>?_)
 ·refine Run.reg (gm rfl (gm rfl (gb rfl (ga rfl ?_))))
  obtain ⟨x1,e3,hF⟩:=letP_use hF
  refine RunL.name e3 ?_
  refine nil (sr (gm rfl (ga rfl (nil (Run.retP rfl (.tmp rfl .nil) ?_)))))
  cases hF
  exact Post.mk' ⟨rfl,rfl,rfl,rfl⟩ (h.picks .nil) .nil
 refine Run.skip (sr (gm rfl (ga rfl (nil (Run.retP rfl (.tmp rfl .nil) ?_)))))
 cases hF
 exact Post.mk' ⟨rfl,rfl,rfl,rfl⟩ (h.picks .nil) .nil
set_option maxRecDepth 20000 in
theorem made_Dice_Next_ok {fuel:Nat} {a0:made_Dice} {a1:Int} {y:Int×made_Dice} (hF:made_Dice_Next fuel a0 a1=some y) {w:World} {v0:Value} :
  Spec Tryz.prog 54 [v0,.int .i64 a1].toArray w [] [(false,.box 163 made_Dice.rep v0 a0)] (λ v Γr Ωr Ωo=>v=.int .i64 y.1∧Γr=[]∧Ωr=[]∧Ωo=[(false,.box 163 made_Dice.rep v0 y.2)]):=by
 refine Spec.of (L:=[(0,v0),(1,.int .i64 a1)]) Tryz.func54 rfl ⟨rfl,rfl,trivial⟩ rfl (λ e h=>?_)
 unfold made_Dice_Next at hF
 refine sr (ga rfl (nil (Run.seq (Run.seq ?_))))
 refine Run.drawV (Ωs:=[]) [.k 5 v0,.kr 6 v0 [0],.kr 7 (padd v0 1) [0],.kr 8 (.int .i64 a0.At) [0],.k 9 v0,.kr 10 v0 [0],.kr 11 (padd v0 0) [0],.fr 12 (λ u_=>[(false,.val (Rep.slice (Rep.int .i64)) u_ a0.L)]) [0],.k 13 (.int .i64 (a0.L.length:Int))] [[],[0],[1],[2],[],[4],[5],[6],[7]] [[(false,.box 163 made_Dice.rep v0 a0)]] [0,1,2,3,4,5,6,7,8,9] Try_mixed rfl rfl rfl h (.cons ?_ (.cons ?_ (.cons ?_ (.cons ?_ (.cons ?_ (.cons ?_ (.cons ?_ (.cons ?_ (.cons ?_ .nil))))))))) (λ q1 w hq1 h=>?_)
 ·intro q1 w Γx Ωx h
  refine OpS.mv rfl rfl rfl ?_
  exact du h
 ·intro q1 w Γx Ωx h
  refine OpS.nchk h .z rfl rfl rfl ?_
  exact du h
 ·intro q1 w Γx Ωx h
  refine OpS.fbox (o3:=1) h .z PA.z fa163_1 rfl rfl rfl rfl ?_
  exact du h
 ·intro q1 w Γx Ωx h
  refine OpS.loadBi h .z PA.a (Get.fld made_Dice.f1) ty3 rfl rfl rfl ?_
  exact du h
 ·intro q1 w Γx Ωx h
  refine OpS.mv rfl rfl rfl ?_
  exact du h
 ·intro q1 w Γx Ωx h
  refine OpS.nchk h .z rfl rfl rfl ?_
  exact du h
 ·intro q1 w Γx Ωx h
  refine OpS.fbox (o3:=0) h .z PA.z fa163_0 rfl rfl rfl rfl ?_
  exact du h
 ·intro q1 w Γx Ωx h
  refine OpS.loadB h .z PA.a (Get.fld made_Dice.f0) ty22 rfl rfl rfl (λ u h2=>?_)
  exact ⟨u,rfl,trivial,h2⟩
 ·intro q1 w Γx Ωx h
  refine OpS.len h Tryz.underlying22 rfl rfl rfl (V.at .z) ?_
  exact du h
 have h3:=h
 refine gb rfl (nil ?_)
 refine Run.ite rfl hF (λ e1 hF=>?_) (λ e1 hF=>?_)
 ·refine sr (ga rfl (nil (Run.retP rfl (.tmp rfl .nil) ?_)))
  cases hF
  exact Post.mk' ⟨rfl,rfl,rfl,rfl⟩ (h3.picks (.cons .z .nil)) .nil
 refine Run.skip (sr (gm rfl (op (OpS.nchk h3 .z rfl rfl rfl ?_))))
 refine op (OpS.fbox (o3:=1) h3 .z PA.z fa163_1 rfl rfl rfl rfl ?_)
 refine op (OpS.loadBi h3 .z PA.a (Get.fld made_Dice.f1) ty3 rfl rfl rfl ?_)
 refine gb rfl (op (OpS.nchk h3 .z rfl rfl rfl ?_))
 refine op (OpS.fbox (o3:=1) h3 .z PA.z fa163_1 rfl rfl rfl rfl ?_)
 obtain ⟨d1,e2,hF⟩:=letP_use hF
 refine op (OpS.storeB (f':=true) h3 .z PA.a (Put.of (Put.fld made_Dice.f1) e2) ty3 rfl rfl rfl V.int (.inr rfl) (λ w1 h4=>?_))
 refine nil (Run.seq ?_)
 obtain ⟨x1,e3,hF⟩:=bindP_use hF
 refine Run.drawV (Ωs:=[]) [.k 22 v0,.kr 23 v0 [0],.kr 24 (padd v0 0) [0],.fr 25 (λ u_=>[(false,.val (Rep.slice (Rep.int .i64)) u_ d1.L)]) [0],.k 26 v0,.kr 27 v0 [0],.kr 28 (padd v0 1) [0],.kr 29 (.int .i64 d1.At) [0],.k 30 (.int .i64 (IntKind.i64.wrap (d1.At-1))),.f 31 (λ u_=>[(false,.ptr (Rep.int .i64) u_ x1)]),.k 32 (.int .i64 x1),.k 33 (.int .i64 a1)] [[],[0],[1],[2],[],[4],[5],[6],[7],[3,8],[9],[]] [[(false,.box 163 made_Dice.rep v0 d1)]] [0,1,2,3,4,5,6,7,8,9,10,11,12] Try_mixed rfl rfl rfl h4 (.cons ?_ (.cons ?_ (.cons ?_ (.cons ?_ (.cons ?_ (.cons ?_ (.cons ?_ (.cons ?_ (.cons ?_ (.cons ?_ (.cons ?_ (.cons ?_ .nil)))))))))))) (λ q2 w hq2 h=>?_)
 ·intro q2 w Γx Ωx h
  refine OpS.mv rfl rfl rfl ?_
  exact du h
 ·intro q2 w Γx Ωx h
  refine OpS.nchk h .z rfl rfl rfl ?_
  exact du h
 ·intro q2 w Γx Ωx h
  refine OpS.fbox (o3:=0) h .z PA.z fa163_0 rfl rfl rfl rfl ?_
  exact du h
 ·intro q2 w Γx Ωx h
  refine OpS.loadB h .z PA.a (Get.fld made_Dice.f0) ty22 rfl rfl rfl (λ u h7=>?_)
  exact ⟨u,rfl,trivial,h7⟩
 ·intro q2 w Γx Ωx h
  refine OpS.mv rfl rfl rfl ?_
  exact du h
 ·intro q2 w Γx Ωx h
  refine OpS.nchk h .z rfl rfl rfl ?_
  exact du h
 ·intro q2 w Γx Ωx h
  refine OpS.fbox (o3:=1) h .z PA.z fa163_1 rfl rfl rfl rfl ?_
  exact du h
 ·intro q2 w Γx Ωx h
  refine OpS.loadBi h .z PA.a (Get.fld made_Dice.f1) ty3 rfl rfl rfl ?_
  exact du h
 ·intro q2 w Γx Ωx h
  refine OpS.bin rfl rfl rfl rfl rfl ?_
  exact du h
 ·intro q2 w Γx Ωx h
  refine OpS.iptr h Tryz.underlying22 ty3 rfl rfl rfl rfl (V.at .z) e3 (λ u h8=>?_)
  exact ⟨u,rfl,trivial,h8⟩
 ·intro q2 w Γx Ωx h
  refine OpS.loadi h ty3 rfl rfl rfl .z ?_
  exact du h
 ·intro q2 w Γx Ωx h
  refine OpS.mv rfl rfl rfl ?_
  exact du h
 have h9:=h
 obtain ⟨y1,e4,hF⟩:=bindP_use hF
 refine op (OpS.callP h9 Tryz.func19 rfl rfl rfl rfl (vs:=[.int .i64 x1,.int .i64 a1]) rfl (made_Mod_ok e4) .nil ?_)
 rintro _ w2 _ _ _ ⟨rfl,rfl,rfl,rfl⟩ h10
 have h11:=h10 rfl rfl
 simp only [ca,na] at h11
 refine ga rfl (nil (Run.slim [(4,.int .i64 y1)] ⟨rfl,trivial⟩ ?_))
 refine Run.retP rfl (.tmp rfl .nil) ?_
 cases hF
 exact Post.mk' ⟨rfl,rfl,rfl,rfl⟩ (h11.picks (.cons .z .nil)) .nil
theorem made_Dice_Bool_ok {fuel:Nat} {a0:made_Dice} {a1:Int} {y:Bool×made_Dice} (hF:made_Dice_Bool fuel a0 a1=some y) {w:World} {v0:Value} :
  Spec Tryz.prog 31 [v0,.int .i64 a1].toArray w [] [(false,.box 163 made_Dice.rep v0 a0)] (λ v Γr Ωr Ωo=>v=.bool y.1∧Γr=[]∧Ωr=[]∧Ωo=[(false,.box 163 made_Dice.rep v0 y.2)]):=by
 refine Spec.of (L:=[(0,v0),(1,.int .i64 a1)]) Tryz.func31 rfl ⟨rfl,rfl,trivial⟩ rfl (λ e h=>?_)
 unfold made_Dice_Bool at hF
 refine sr (ga rfl (nil (sr (gm rfl (gm rfl ?_)))))
 obtain ⟨y1,e1,hF⟩:=bindP_use hF
 have h1:=h.front (.cons .z .nil)
 refine op (OpS.callO h1 Tryz.func54 rfl rfl rfl rfl (vs:=[v0,.int .i64 a1]) rfl (made_Dice_Next_ok e1) rfl .nil ?_)
 rintro _ w1 _ _ _ ⟨rfl,rfl,rfl,rfl⟩ h2
 have h3:=h2
 simp only [ca,na] at h3
 refine gm rfl (gb rfl (gb rfl (ga rfl ?_)))
 obtain ⟨x1,e2,hF⟩:=letP_use hF
 refine RunL.nameb e2 ?_
 refine nil (Run.retP rfl (.tmp rfl .nil) ?_)
 cases hF
 exact Post.mk' ⟨rfl,rfl,rfl,rfl⟩ (h3.picks (.cons .z .nil)) .nil
theorem made_Dice_Byte_ok {fuel:Nat} {a0:made_Dice} {y:Int×made_Dice} (hF:made_Dice_Byte fuel a0=some y) {w:World} {v0:Value} :
  Spec Tryz.prog 76 [v0].toArray w [] [(false,.box 163 made_Dice.rep v0 a0)] (λ v Γr Ωr Ωo=>v=.int .u8 y.1∧Γr=[]∧Ωr=[]∧Ωo=[(false,.box 163 made_Dice.rep v0 y.2)]):=by
 refine Spec.of (L:=[(0,v0)]) Tryz.func76 rfl ⟨rfl,trivial⟩ rfl (λ e h=>?_)
 unfold made_Dice_Byte at hF
 refine sr (ga rfl (nil (sr (op (OpS.buildA (f:=true) (r:=(Rep.int .u8)) h Tryz.underlying279 ti5 rfl ti279 rfl rfl rfl (.cons rfl V.int (.cons rfl V.int (.cons rfl V.int (.cons rfl V.int (.cons rfl V.int (.cons rfl V.int (.cons rfl V.int (.cons rfl V.int .nil)))))))) rfl (λ u1 h1=>?_))))))
 refine op (OpS.alloc h1 ti279 (Zr.of (Zr.arr (Zr.int .u8 0) 8) rfl) rfl rfl (λ u2 w1 h2=>?_))
 obtain ⟨d1,e1,hF⟩:=letP_use hF
 refine op (OpS.storeB (f':=true) h2 .z PA.z (Put.of Put.id e1) ty279 rfl rfl rfl (V.at .z) (.inl rfl) (λ w2 h3=>?_))
 refine nil (Run.seq (sr (gm rfl ?_)))
 obtain ⟨y1,e2,hF⟩:=bindP_use hF
 have h4:=h3.front (.cons (.s .z) .nil)
 refine op (OpS.callO h4 Tryz.func31 rfl rfl rfl rfl (vs:=[v0,.int .i64 3]) rfl (made_Dice_Bool_ok e2) rfl .nil ?_)
 rintro _ w3 _ _ _ ⟨rfl,rfl,rfl,rfl⟩ h5
 have h6:=h5
 simp only [ca,na] at h6
 refine nil ?_
 refine Run.ite rfl hF (λ e3 hF=>?_) (λ e3 hF=>?_)
 ·refine sr (gm rfl ?_)
  obtain ⟨y2,e4,hF⟩:=bindP_use hF
  have h7:=h6.front (.cons .z .nil)
  refine op (OpS.callO h7 Tryz.func54 rfl rfl rfl rfl (vs:=[v0,.int .i64 8]) rfl (made_Dice_Next_ok e4) rfl .nil ?_)
  rintro _ w4 _ _ _ ⟨rfl,rfl,rfl,rfl⟩ h8
  have h9:=h8
  simp only [ca,na] at h9
  obtain ⟨x1,e5,hF⟩:=bindP_use hF
  obtain ⟨e6,hF⟩:=chk_use hF
  refine op (OpS.ibox h9 (.s .z) PA.z Tryz.underlying279 ty5 (Nat.eq_of_beq_eq_true e6) rfl rfl rfl rfl e5 ?_)
  refine op (OpS.loadBi h9 (.s .z) PA.a (Get.comp Get.id (Get.arr e5)) ty5 rfl rfl rfl ?_)
  refine ga rfl (nil (Run.retP rfl (.tmp rfl .nil) ?_))
  cases hF
  exact Post.mk' ⟨rfl,rfl,rfl,rfl⟩ (h9.picks (.cons .z .nil)) .nil
 refine Run.skip (sr (gm rfl ?_))
 obtain ⟨y3,e7,hF⟩:=bindP_use hF
 have h10:=h6.front (.cons .z .nil)
 refine op (OpS.callO h10 Tryz.func54 rfl rfl rfl rfl (vs:=[v0,.int .i64 256]) rfl (made_Dice_Next_ok e7) rfl .nil ?_)
 rintro _ w5 _ _ _ ⟨rfl,rfl,rfl,rfl⟩ h11
 have h12:=h11
 simp only [ca,na] at h12
 refine op (OpS.conv Tryz.underlying3 Tryz.underlying5 rfl rfl rfl ?_)
 refine ga rfl (nil (Run.retP rfl (.tmp rfl .nil) ?_))
 cases hF
 exact Post.mk' ⟨rfl,rfl,rfl,rfl⟩ (h12.picks (.cons .z .nil)) .nil
set_option maxRecDepth 20000 in
theorem made_Dice_Text_ok {fuel:Nat} {a0:made_Dice} {a1:List Int} {a2:Int} {y:(List Int)×made_Dice} (hF:made_Dice_Text fuel a0 a1 a2=some y) {w:World} {v0 v1:Value} :
  Spec Tryz.prog 170 [v0,v1,.int .i64 a2].toArray w [(false,.val Rep.str v1 a1)] [(false,.box 163 made_Dice.rep v0 a0)] (λ v Γr Ωr Ωo=>∃ u0:Value,v=u0∧Γr=[(true,.val Rep.str u0 y.1)]∧Ωr=[]∧Ωo=[(false,.box 163 made_Dice.rep v0 y.2)]):=by
 refine Spec.of (L:=[(0,v0),(1,v1),(2,.int .i64 a2)]) Tryz.func170 rfl ⟨rfl,rfl,rfl,trivial⟩ rfl (λ e h=>?_)
 unfold made_Dice_Text at hF
 refine sr (ga rfl (nil (sr (ga rfl (nil (Run.seq (sr (ga rfl (nil (Run.block (Run.slim [(0,v0),(1,v1),(2,.int .i64 a2),(7,(.string ⟨#[]⟩)),(8,.int .i64 0)] ⟨rfl,rfl,rfl,rfl,rfl,trivial⟩ ?_)))))))))))
 refine Run.loopP (σ:=((List Int)×Int×made_Dice)) (λ s_ L_ w_=>∃ u0_:Value,L_=[(0,v0),(1,v1),(2,.int .i64 a2),(7,u0_),(8,.int .i64 s_.2.1)]∧St e w_ [(false,.val Rep.str v1 a1),(true,.val Rep.str u0_ s_.1)] [(false,.box 163 made_Dice.rep v0 s_.2.2)]) hF ⟨(.string ⟨#[]⟩),rfl,(h.facts (.atm .z (.val (V.str (f:=true)) .nil))).picks (.cons .z .nil)⟩ (λ k1 hk1 s1 _ w1 hI hF=>?_)
 obtain ⟨u1,rfl,h1⟩:=hI
 refine Run.seq (sr (gm rfl (gm rfl (gb rfl (nil ?_)))))
 refine Run.ite rfl hF (λ e1 hF=>?_) (λ e1 hF=>?_)
 ·refine Run.skip (Run.seq (Run.block (sr (gm rfl (gm rfl (op (OpS.lenS h1 Tryz.underlying9 rfl rfl rfl (V.at .z) ?_)))))))
  obtain ⟨y1,e2,hF⟩:=bindP_use hF
  have h2:=h1.front (.cons .z .nil)
  refine op (OpS.callO h2 Tryz.func54 rfl rfl rfl rfl (vs:=[v0,.int .i64 (a1.length:Int)]) rfl (made_Dice_Next_ok e2) rfl .nil ?_)
  rintro _ w2 _ _ _ ⟨rfl,rfl,rfl,rfl⟩ h3
  have h4:=h3
  simp only [ca,na] at h4
  refine ga rfl (nil (Run.reg (gm rfl (gm rfl (gm rfl (gm rfl (gb rfl ?_)))))))
  obtain ⟨x1,e3,hF⟩:=bindP_use hF
  refine op (OpS.ssub h4 Tryz.underlying9 rfl rfl rfl rfl rfl (V.at .z) e3 (λ u2 h5=>?_))
  obtain ⟨x2,e4,hF⟩:=bindP_use hF
  refine op (OpS.cats h5 rfl rfl rfl rfl (V.at (.s (.s .z))) (V.at .z) e4 (λ u3 h6=>?_))
  refine ga rfl (nil (Run.endBlock (Run.reg (gm rfl (gb rfl (ga rfl ?_))))))
  obtain ⟨x3,e5,hF⟩:=letP_use hF
  refine RunL.name e5 ?_
  refine nil (Run.slim [(0,v0),(1,v1),(2,.int .i64 a2),(7,u3),(8,.int .i64 x3)] ⟨rfl,rfl,rfl,rfl,rfl,trivial⟩ ?_)
  exact hk1 (x2,x3,y1.2) _ _ ⟨u3,rfl,(h6.facts (.atm (.s (.s .z)) (.val (V.at .z) .nil))).picks (.cons .z .nil)⟩ hF
 refine Run.exit rfl ?_
 refine sr (gm rfl (ga rfl (nil (Run.retP rfl (.tmp rfl .nil) ?_))))
 cases hF
 exact Post.mk' ⟨u1,rfl,rfl,rfl,rfl⟩ (h1.picks (.cons .z .nil)) (.val (V.at (.s .z)) .nil)
theorem made_Dice_Entity_ok {fuel:Nat} {a0:made_Dice} {y:Entity_×made_Dice} (hF:made_Dice_Entity fuel a0=some y) {w:World} {v0:Value} :
  Spec Tryz.prog 32 [v0].toArray w [] [(false,.box 163 made_Dice.rep v0 a0)] (λ v Γr Ωr Ωo=>∃ u0:Value,v=u0∧Γr=[(true,.val Entity_.rep u0 y.1)]∧Ωr=[]∧Ωo=[(false,.box 163 made_Dice.rep v0 y.2)]):=by
 refine Spec.of (L:=[(0,v0)]) Tryz.func32 rfl ⟨rfl,trivial⟩ rfl (λ e h=>?_)
 unfold made_Dice_Entity at hF
 refine sr (op (OpS.alloc h ti66 Entity_.zr rfl rfl (λ u1 w1 h1=>?_)))
 refine nil (sr (gm rfl ?_))
 obtain ⟨y1,e1,hF⟩:=bindP_use hF
 have h2:=h1.front (.cons (.s .z) .nil)
 refine op (OpS.callO h2 Tryz.func54 rfl rfl rfl rfl (vs:=[v0,.int .i64 4]) rfl (made_Dice_Next_ok e1) rfl .nil ?_)
 rintro _ w2 _ _ _ ⟨rfl,rfl,rfl,rfl⟩ h3
 have h4:=h3
 simp only [ca,na] at h4
 refine gb rfl (op (OpS.conv Tryz.underlying3 Tryz.underlying5 rfl rfl rfl ?_))
 refine gm rfl ?_
 obtain ⟨y2,e2,hF⟩:=bindP_use hF
 have h5:=h4.front (.cons .z .nil)
 refine op (OpS.callO h5 Tryz.func54 rfl rfl rfl rfl (vs:=[v0,.int .i64 2]) rfl (made_Dice_Next_ok e2) rfl .nil ?_)
 rintro _ w3 _ _ _ ⟨rfl,rfl,rfl,rfl⟩ h6
 have h7:=h6
 simp only [ca,na] at h7
 refine op (OpS.conv Tryz.underlying3 Tryz.underlying5 rfl rfl rfl ?_)
 refine op (OpS.build (f:=true) (x':=(⟨(IntKind.u8.wrap (IntKind.i64.wrap (1+y1.1))),(IntKind.u8.wrap y2.1)⟩:Entity_)) h7 pl66 ti66 Entity_.zr rfl rfl rfl (.cons rfl Entity_.f0 rfl V.int (.cons rfl Entity_.f1 rfl V.int .nil)) (λ u2 h8=>?_))
 refine op (OpS.storeB (f':=true) h8 (.s .z) PA.z Put.id ty66 rfl rfl rfl (V.at .z) (.inl rfl) (λ w4 h9=>?_))
 refine nil ?_
 obtain ⟨u3,hu1,h10⟩:=res_box h9 .z ty66
 refine Run.retP rfl (.cell rfl hu1 .nil) ?_
 cases hF
 exact Post.mk' ⟨u3,rfl,rfl,rfl,rfl⟩ (h10.picks (.cons (.s .z) .nil)) (.val (V.at .z) .nil)
theorem ref04_Least_ok {fuel:Nat} {a0:Bool} {y:Int} (hF:ref04_Least fuel a0=some y) {w:World} :
  Spec Tryz.prog 222 [.bool a0].toArray w [] [] (λ v Γr Ωr Ωo=>v=.int .i64 y∧Γr=[]∧Ωr=[]∧Ωo=[]):=by
 refine Spec.of (L:=[(0,.bool a0)]) Tryz.func222 rfl ⟨rfl,trivial⟩ rfl (λ e h=>?_)
 unfold ref04_Least at hF
 refine sr (ga rfl (nil (Run.seq (sr (gm rfl (nil ?_))))))
 refine Run.ite rfl hF (λ e1 hF=>?_) (λ e1 hF=>?_)
 ·refine sr (ga rfl (nil (Run.retP rfl (.tmp rfl .nil) ?_)))
  cases hF
  exact Post.mk' ⟨rfl,rfl,rfl,rfl⟩ (h.picks .nil) .nil
 refine Run.skip (sr (ga rfl (nil (Run.retP rfl (.tmp rfl .nil) ?_))))
 cases hF
 exact Post.mk' ⟨rfl,rfl,rfl,rfl⟩ (h.picks .nil) .nil
theorem ref04_Raw_ok {fuel:Nat} {a0:Int} {y:Int} (hF:ref04_Raw fuel a0=some y) {w:World} :
  Spec Tryz.prog 223 [.int .i64 a0].toArray w [] [] (λ v Γr Ωr Ωo=>v=.int .u8 y∧Γr=[]∧Ωr=[]∧Ωo=[]):=by
 refine Spec.of (L:=[(0,.int .i64 a0)]) Tryz.func223 rfl ⟨rfl,trivial⟩ rfl (λ e h=>?_)
 unfold ref04_Raw at hF
 refine sr (ga rfl (nil (sr (gm rfl (gb rfl (op (OpS.rem rfl rfl rfl rfl (by decide) ?_)))))))
 refine op (OpS.conv Tryz.underlying3 Tryz.underlying5 rfl rfl rfl ?_)
 refine ga rfl ?_
 obtain ⟨x1,e1,hF⟩:=letP_use hF
 refine RunL.name e1 ?_
 refine nil (Run.retP rfl (.tmp rfl .nil) ?_)
 cases hF
 exact Post.mk' ⟨rfl,rfl,rfl,rfl⟩ (h.picks .nil) .nil
theorem made_Dice_Micro_ok {fuel:Nat} {a0:made_Dice} {y:Int×made_Dice} (hF:made_Dice_Micro fuel a0=some y) {w:World} {v0:Value} :
  Spec Tryz.prog 224 [v0].toArray w [] [(false,.box 163 made_Dice.rep v0 a0)] (λ v Γr Ωr Ωo=>v=.int .i64 y.1∧Γr=[]∧Ωr=[]∧Ωo=[(false,.box 163 made_Dice.rep v0 y.2)]):=by
 refine Spec.of (L:=[(0,v0)]) Tryz.func224 rfl ⟨rfl,trivial⟩ rfl (λ e h=>?_)
 unfold made_Dice_Micro at hF
 refine sr (ga rfl (nil (sr (op (OpS.buildA (f:=true) (r:=(Rep.int .i64)) h Tryz.underlying366 ti2 rfl ti366 rfl rfl rfl (.cons rfl V.int (.cons rfl V.int (.cons rfl V.int (.cons rfl V.int (.cons rfl V.int (.cons rfl V.int (.cons rfl V.int (.cons rfl V.int .nil)))))))) rfl (λ u1 h1=>?_))))))
 refine op (OpS.alloc h1 ti366 (Zr.of (Zr.arr (Zr.int .i64 0) 8) rfl) rfl rfl (λ u2 w1 h2=>?_))
 obtain ⟨d1,e1,hF⟩:=letP_use hF
 refine op (OpS.storeB (f':=true) h2 .z PA.z (Put.of Put.id e1) ty366 rfl rfl rfl (V.at .z) (.inl rfl) (λ w2 h3=>?_))
 refine nil (Run.seq (sr (gm rfl ?_)))
 obtain ⟨y1,e2,hF⟩:=bindP_use hF
 have h4:=h3.front (.cons (.s .z) .nil)
 refine op (OpS.callO h4 Tryz.func54 rfl rfl rfl rfl (vs:=[v0,.int .i64 3]) rfl (made_Dice_Next_ok e2) rfl .nil ?_)
 rintro _ w3 _ _ _ ⟨rfl,rfl,rfl,rfl⟩ h5
 have h6:=h5
 simp only [ca,na] at h6
 refine nil (Run.block (sr (gb rfl (ga rfl ?_))))
 obtain ⟨x1,e3,hF⟩:=letP_use hF
 refine RunL.nameb e3 ?_
 refine nil ?_
 refine Run.ite rfl hF (λ e4 hF=>?_) (λ e4 hF=>?_)
 ·refine sr (gm rfl ?_)
  obtain ⟨y2,e5,hF⟩:=bindP_use hF
  have h7:=h6.front (.cons .z .nil)
  refine op (OpS.callO h7 Tryz.func54 rfl rfl rfl rfl (vs:=[v0,.int .i64 8]) rfl (made_Dice_Next_ok e5) rfl .nil ?_)
  rintro _ w4 _ _ _ ⟨rfl,rfl,rfl,rfl⟩ h8
  have h9:=h8
  simp only [ca,na] at h9
  obtain ⟨x2,e6,hF⟩:=bindP_use hF
  obtain ⟨e7,hF⟩:=chk_use hF
  refine op (OpS.ibox h9 (.s .z) PA.z Tryz.underlying366 ty2 (Nat.eq_of_beq_eq_true e7) rfl rfl rfl rfl e6 ?_)
  refine op (OpS.loadBi h9 (.s .z) PA.a (Get.comp Get.id (Get.arr e6)) ty2 rfl rfl rfl ?_)
  refine ga rfl (nil (Run.retP rfl (.tmp rfl .nil) ?_))
  cases hF
  exact Post.mk' ⟨rfl,rfl,rfl,rfl⟩ (h9.picks (.cons .z .nil)) .nil
 refine sr (gb rfl (ga rfl ?_))
 obtain ⟨x3,e8,hF⟩:=letP_use hF
 refine RunL.nameb e8 ?_
 refine nil ?_
 refine Run.ite rfl hF (λ e9 hF=>?_) (λ e9 hF=>?_)
 ·refine sr (gm rfl ?_)
  obtain ⟨y3,e10,hF⟩:=bindP_use hF
  have h10:=h6.front (.cons .z .nil)
  refine op (OpS.callO h10 Tryz.func54 rfl rfl rfl rfl (vs:=[v0,.int .i64 2000001]) rfl (made_Dice_Next_ok e10) rfl .nil ?_)
  rintro _ w5 _ _ _ ⟨rfl,rfl,rfl,rfl⟩ h11
  have h12:=h11
  simp only [ca,na] at h12
  refine gb rfl (ga rfl ?_)
  obtain ⟨x4,e11,hF⟩:=letP_use hF
  refine RunL.name e11 ?_
  refine nil (Run.retP rfl (.tmp rfl .nil) ?_)
  cases hF
  exact Post.mk' ⟨rfl,rfl,rfl,rfl⟩ (h12.picks (.cons .z .nil)) .nil
 refine Run.skip (Run.endBlock (sr (gm rfl ?_)))
 obtain ⟨y4,e12,hF⟩:=bindP_use hF
 have h13:=h6.front (.cons .z .nil)
 refine op (OpS.callO h13 Tryz.func54 rfl rfl rfl rfl (vs:=[v0,.int .i64 2000001]) rfl (made_Dice_Next_ok e12) rfl .nil ?_)
 rintro _ w6 _ _ _ ⟨rfl,rfl,rfl,rfl⟩ h14
 have h15:=h14
 simp only [ca,na] at h15
 refine gb rfl (gb rfl (gm rfl ?_))
 obtain ⟨y5,e13,hF⟩:=bindP_use hF
 have h16:=h15.front (.cons .z .nil)
 refine op (OpS.callO h16 Tryz.func54 rfl rfl rfl rfl (vs:=[v0,.int .i64 1000]) rfl (made_Dice_Next_ok e13) rfl .nil ?_)
 rintro _ w7 _ _ _ ⟨rfl,rfl,rfl,rfl⟩ h17
 have h18:=h17
 simp only [ca,na] at h18
 refine gb rfl (gb rfl (ga rfl ?_))
 obtain ⟨x5,e14,hF⟩:=letP_use hF
 refine RunL.name e14 ?_
 refine nil (Run.retP rfl (.tmp rfl .nil) ?_)
 cases hF
 exact Post.mk' ⟨rfl,rfl,rfl,rfl⟩ (h18.picks (.cons .z .nil)) .nil
end Lift
