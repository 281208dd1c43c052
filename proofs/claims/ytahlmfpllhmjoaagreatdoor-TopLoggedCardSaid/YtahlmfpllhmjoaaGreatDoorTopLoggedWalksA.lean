import Derived.Test.YtahlmfpllhmjoaaGreatDoorFacts
set_option linter.unusedVariables false
set_option linter.unusedSimpArgs false
namespace Lift
open Go Go.Proofs
open RunL (op sr nil gm ga gb gp gk dp du)
theorem Qnc {fuel:Nat} {a0:List Int} {y:Bool} (hF:Qfy fuel a0=some y) {w:World} {v0:Value} :
  Spec Tryz.prog 181 [v0].toArray w [(false,.val Rep.str v0 a0)] [] (λ v Γr Ωr Ωo=>v=.bool y∧Γr=[]∧Ωr=[]∧Ωo=[]):=by
 refine Spec.of (L:=[(0,v0)]) Tryz.func181 rfl ⟨rfl,trivial⟩ rfl (λ e h=>?_)
 unfold Qfy at hF
 refine sr (ga rfl (nil (Run.seq (sr (gm rfl (op (OpS.lenS h Tryz.underlying9 rfl rfl rfl (V.at .z) ?_)))))))
 refine gm rfl (nil (Run.block (Run.slim [(0,v0),(5,.int .i64 (a0.length:Int)),(6,.int .i64 0)] ⟨rfl,rfl,rfl,trivial⟩ ?_)))
 refine Run.loopP (σ:=Int) (λ s_ L_ w_=>L_=[(0,v0),(5,.int .i64 (a0.length:Int)),(6,.int .i64 s_)]∧St e w_ [(false,.val Rep.str v0 a0)] []) hF ⟨rfl,(h.facts (.atm .z .nil)).picks .nil⟩ (λ k1 hk1 s1 _ w1 hI hF=>?_)
 obtain ⟨rfl,h1⟩:=hI
 refine sr (gb rfl (nil (Run.seq ?_)))
 refine Run.ite rfl hF (λ e1 hF=>?_) (λ e1 hF=>?_)
 ·refine Run.skip (Run.seq (Run.block (sr (gm rfl (ga rfl (nil (sr (gm rfl (gm rfl ?_)))))))))
  obtain ⟨x1,e2,hF⟩:=Qa hF
  refine op (OpS.selem h1 Tryz.underlying9 rfl rfl rfl rfl (V.at .z) e2 ?_)
  refine gb rfl (gm rfl ?_)
  refine RunL.join (σ:=Bool) (λ s_ L_ w_=>L_=[(0,v0),(5,.int .i64 (a0.length:Int)),(6,.int .i64 s1),(18,.bool s_)]∧St e w_ [(false,.val Rep.str v0 a0)] []) hF (λ s2 _ w2 hI hF=>?_) (λ j1 hj1 hF=>?_)
  ·obtain ⟨rfl,h2⟩:=hI
   refine Run.ite rfl hF (λ e3 hF=>?_) (λ e3 hF=>?_)
   ·refine sr (ga rfl (nil (Run.retP rfl (.tmp rfl .nil) ?_)))
    cases hF
    exact Post.mk' ⟨rfl,rfl,rfl,rfl⟩ (h2.picks .nil) .nil
   refine Run.skip (Run.endBlock (Run.reg (gb rfl (gm rfl (nil (Run.slim [(0,v0),(5,.int .i64 (a0.length:Int)),(6,.int .i64 (IntKind.i64.wrap (s1+1)))] ⟨rfl,rfl,rfl,trivial⟩ ?_))))))
   exact hk1 ((IntKind.i64.wrap (s1+1))) _ _ ⟨rfl,(h2.facts (.atm .z .nil)).picks .nil⟩ hF
  refine RunL.caseb hF (λ e4 hF=>?_) (λ e4 hF=>?_)
  ·refine gp rfl (gp rfl (gp rfl (gp rfl (gk rfl (nil (Run.slim [(0,v0),(5,.int .i64 (a0.length:Int)),(6,.int .i64 s1),(18,.bool true)] ⟨rfl,rfl,rfl,rfl,trivial⟩ ?_))))))
   exact hj1 (true) _ _ ⟨rfl,(h1.facts (.atm .z .nil)).picks .nil⟩ hF
  refine gm rfl (gm rfl (op (OpS.selem h1 Tryz.underlying9 rfl rfl rfl rfl (V.at .z) e2 ?_)))
  refine gb rfl (gk rfl (nil (Run.slim [(0,v0),(5,.int .i64 (a0.length:Int)),(6,.int .i64 s1),(18,.bool (decide (x1>126)))] ⟨rfl,rfl,rfl,rfl,trivial⟩ ?_)))
  exact hj1 (decide (x1>126)) _ _ ⟨rfl,(h1.facts (.atm .z .nil)).picks .nil⟩ hF
 refine Run.exit rfl ?_
 refine sr (gm rfl (op (OpS.lenS h1 Tryz.underlying9 rfl rfl rfl (V.at .z) ?_)))
 refine gb rfl (gm rfl ?_)
 refine RunL.caseb hF (λ e5 hF=>?_) (λ e5 hF=>?_)
 ·refine gm rfl (op (OpS.lenS h1 Tryz.underlying9 rfl rfl rfl (V.at .z) ?_))
  refine gb rfl (gk rfl (ga rfl ?_))
  obtain ⟨x2,e6,hF⟩:=Qh hF
  refine RunL.nameb e6 ?_
  refine nil (Run.retP rfl (.tmp rfl .nil) ?_)
  cases hF
  exact Post.mk' ⟨rfl,rfl,rfl,rfl⟩ (h1.picks .nil) .nil
 refine gp rfl (gp rfl (gp rfl (gk rfl (ga rfl (nil (Run.retP rfl (.tmp rfl .nil) ?_))))))
 cases hF
 exact Post.mk' ⟨rfl,rfl,rfl,rfl⟩ (h1.picks .nil) .nil
set_option maxHeartbeats 8000000 in set_option maxRecDepth 20000 in
theorem Qlm {fuel:Nat} {a0:Sensor_} {y:Bool} (hF:Qfq fuel a0=some y) {w:World} {v0:Value} :
  Spec Tryz.prog 182 [v0].toArray w [(false,.val Sensor_.rep v0 a0)] [] (λ v Γr Ωr Ωo=>v=.bool y∧Γr=[]∧Ωr=[]∧Ωo=[]):=by
 refine Spec.of (L:=[(0,v0)]) Tryz.func182 rfl ⟨rfl,trivial⟩ rfl (λ e h=>?_)
 unfold Qfq at hF
 refine sr (op (OpS.boxF h rfl rfl rfl (V.at .z) (λ u1 w1 h1=>?_)))
 refine ga rfl (nil (sr (op (OpS.fbox (o3:=7) h1 .z PA.z Qnq rfl rfl rfl rfl ?_))))
 refine op (OpS.loadB h1 .z PA.a (Get.fld Sensor_.f6) ty69 rfl rfl rfl (λ u2 h2=>?_))
 refine op (OpS.alloc h2 ti69 Conversion_.zr rfl rfl (λ u3 w2 h3=>?_))
 have h4:=(h3.pick .z).weak
 refine op (OpS.storeB (f':=false) h4 .z PA.z Put.id ty69 rfl rfl rfl (V.at .z) (.inr rfl) (λ w3 h5=>?_))
 refine nil (sr (op (OpS.fbox (o3:=0) h5 .z PA.z Qry rfl rfl rfl rfl ?_)))
 refine op (OpS.loadBi h5 .z PA.a (Get.fld Conversion_.f0) ty3 rfl rfl rfl ?_)
 refine gb rfl (gm rfl ?_)
 refine RunL.join (σ:=Bool) (λ s_ L_ w_=>L_=[(1,u1),(4,.bool s_)]∧St e w_ [] [(false,.box 74 Sensor_.rep u1 a0)]) hF (λ s1 _ w4 hI hF=>?_) (λ j1 hj1 hF=>?_)
 ·obtain ⟨rfl,h6⟩:=hI
  refine sr (gm rfl (gm rfl ?_))
  refine RunL.join (σ:=Bool) (λ s_ L_ w_=>L_=[(1,u1),(4,.bool s_)]∧St e w_ [] [(false,.box 74 Sensor_.rep u1 a0)]) hF (λ s2 _ w5 hI hF=>?_) (λ j2 hj2 hF=>?_)
  ·obtain ⟨rfl,h7⟩:=hI
   refine sr (gm rfl (gm rfl ?_))
   refine RunL.caseb hF (λ e1 hF=>?_) (λ e1 hF=>?_)
   ·refine op (OpS.fbox (o3:=27) h7 .z PA.z Qga rfl rfl rfl rfl ?_)
    refine op (OpS.loadBi h7 .z PA.a (Get.fld Sensor_.f14) ty3 rfl rfl rfl ?_)
    refine gb rfl (gk rfl (gm rfl ?_))
    refine RunL.caseb hF (λ e2 hF=>?_) (λ e2 hF=>?_)
    ·refine op (OpS.fbox (o3:=23) h7 .z PA.z Qen rfl rfl rfl rfl ?_)
     refine op (OpS.loadBi h7 .z PA.a (Get.fld Sensor_.f10) ty49 rfl rfl rfl ?_)
     refine gb rfl (gk rfl (gm rfl ?_))
     refine RunL.caseb hF (λ e3 hF=>?_) (λ e3 hF=>?_)
     ·refine op (OpS.fbox (o3:=24) h7 .z PA.z Qhp rfl rfl rfl rfl ?_)
      refine op (OpS.loadBi h7 .z PA.a (Get.fld Sensor_.f11) ty49 rfl rfl rfl ?_)
      refine op (OpS.fbox (o3:=25) h7 .z PA.z Qhs rfl rfl rfl rfl ?_)
      refine op (OpS.loadBi h7 .z PA.a (Get.fld Sensor_.f12) ty49 rfl rfl rfl ?_)
      refine gb rfl (op (OpS.fbox (o3:=23) h7 .z PA.z Qen rfl rfl rfl rfl ?_))
      refine op (OpS.loadBi h7 .z PA.a (Get.fld Sensor_.f10) ty49 rfl rfl rfl ?_)
      refine gb rfl (gb rfl (gk rfl (ga rfl ?_)))
      obtain ⟨x1,e4,hF⟩:=Qh hF
      refine RunL.nameb e4 ?_
      refine nil (Run.retP rfl (.tmp rfl .nil) ?_)
      cases hF
      exact Post.mk' ⟨rfl,rfl,rfl,rfl⟩ (h7.picks .nil) .nil
     refine gp rfl (gp rfl (gp rfl (gp rfl (gp rfl (gp rfl (gp rfl (gp rfl (gp rfl (gk rfl (ga rfl (nil (Run.retP rfl (.tmp rfl .nil) ?_))))))))))))
     cases hF
     exact Post.mk' ⟨rfl,rfl,rfl,rfl⟩ (h7.picks .nil) .nil
    refine gp rfl (gp rfl (gp rfl (gk rfl (gm rfl (gp rfl (gp rfl (gp rfl (gp rfl (gp rfl (gp rfl (gp rfl (gp rfl (gp rfl (gk rfl (ga rfl (nil ?_))))))))))))))))
    refine Run.retP rfl (.tmp rfl .nil) ?_
    cases hF
    exact Post.mk' ⟨rfl,rfl,rfl,rfl⟩ (h7.picks .nil) .nil
   refine gp rfl (gp rfl (gp rfl (gk rfl (gm rfl (gp rfl (gp rfl (gp rfl (gk rfl (gm rfl (gp rfl (gp rfl (gp rfl (gp rfl (gp rfl (gp rfl (gp rfl ?_))))))))))))))))
   refine gp rfl (gp rfl (gk rfl (ga rfl (nil (Run.retP rfl (.tmp rfl .nil) ?_)))))
   cases hF
   exact Post.mk' ⟨rfl,rfl,rfl,rfl⟩ (h7.picks .nil) .nil
  refine RunL.caseb hF (λ e5 hF=>?_) (λ e5 hF=>?_)
  ·refine op (OpS.fbox (o3:=14) h6 .z PA.z Qnm rfl rfl rfl rfl ?_)
   refine op (OpS.loadB h6 .z PA.a (Get.fld Sensor_.f7) ty72 rfl rfl rfl (λ u4 h8=>?_))
   refine op (OpS.build (f:=true) (x':=Thresholds_.z) h8 pl72 ti72 Thresholds_.zr rfl rfl rfl .nil (λ u5 h9=>?_))
   refine op (OpS.eqA h9 eqt72 rfl gdf72 rfl rfl rfl rfl rfl (V.at (.s .z)) (V.at .z) ?_)
   refine gk rfl (gm rfl ?_)
   refine RunL.caseb hF (λ e6 hF=>?_) (λ e6 hF=>?_)
   ·refine op (OpS.fbox (o3:=21) h9 .z PA.z Qru rfl rfl rfl rfl ?_)
    refine op (OpS.loadBi h9 .z PA.a (Get.fld Sensor_.f8) ty5 rfl rfl rfl ?_)
    refine gb rfl (gk rfl (gm rfl ?_))
    refine RunL.caseb hF (λ e7 hF=>?_) (λ e7 hF=>?_)
    ·refine op (OpS.fbox (o3:=22) h9 .z PA.z Qpj rfl rfl rfl rfl ?_)
     refine op (OpS.loadBi h9 .z PA.a (Get.fld Sensor_.f9) ty5 rfl rfl rfl ?_)
     refine gb rfl (gk rfl (ga rfl ?_))
     obtain ⟨x2,e8,hF⟩:=Qh hF
     refine RunL.nameb e8 ?_
     refine nil (Run.slim [(1,u1),(4,.bool x2)] ⟨rfl,rfl,trivial⟩ ?_)
     exact hj2 (x2) _ _ ⟨rfl,(h9.facts .nil).picks (.cons .z .nil)⟩ hF
    refine gp rfl (gp rfl (gp rfl (gk rfl (ga rfl (nil (Run.slim [(1,u1),(4,.bool false)] ⟨rfl,rfl,trivial⟩ ?_))))))
    exact hj2 (false) _ _ ⟨rfl,(h9.facts .nil).picks (.cons .z .nil)⟩ hF
   refine gp rfl (gp rfl (gp rfl (gk rfl (gm rfl (gp rfl (gp rfl (gp rfl (gk rfl (ga rfl (nil (Run.slim [(1,u1),(4,.bool false)] ⟨rfl,rfl,trivial⟩ ?_)))))))))))
   exact hj2 (false) _ _ ⟨rfl,(h9.facts .nil).picks (.cons .z .nil)⟩ hF
  refine gp rfl (gp rfl (gp rfl (gp rfl (gk rfl (gm rfl (gp rfl (gp rfl (gp rfl (gk rfl (gm rfl (gp rfl (gp rfl (gp rfl (gk rfl (ga rfl (nil ?_))))))))))))))))
  refine Run.slim [(1,u1),(4,.bool false)] ⟨rfl,rfl,trivial⟩ ?_
  exact hj2 (false) _ _ ⟨rfl,(h6.facts .nil).picks (.cons .z .nil)⟩ hF
 refine RunL.caseb hF (λ e9 hF=>?_) (λ e9 hF=>?_)
 ·refine op (OpS.fbox (o3:=1) h5 .z PA.z Qns rfl rfl rfl rfl ?_)
  refine op (OpS.loadBb h5 .z PA.a (Get.fld Conversion_.f1) ty4 rfl rfl rfl ?_)
  refine op (OpS.not rfl rfl rfl ?_)
  refine gk rfl (gm rfl ?_)
  refine RunL.caseb hF (λ e10 hF=>?_) (λ e10 hF=>?_)
  ·refine op (OpS.fbox (o3:=2) h5 .z PA.z Qoc rfl rfl rfl rfl ?_)
   refine op (OpS.loadBi h5 .z PA.a (Get.fld Conversion_.f2) ty3 rfl rfl rfl ?_)
   refine gb rfl (gk rfl (gm rfl ?_))
   refine RunL.caseb hF (λ e11 hF=>?_) (λ e11 hF=>?_)
   ·refine op (OpS.fbox (o3:=3) h5 .z PA.z Qoi rfl rfl rfl rfl ?_)
    refine op (OpS.loadBi h5 .z PA.a (Get.fld Conversion_.f3) ty3 rfl rfl rfl ?_)
    refine gb rfl (gk rfl (gm rfl ?_))
    refine RunL.caseb hF (λ e12 hF=>?_) (λ e12 hF=>?_)
    ·refine op (OpS.fbox (o3:=4) h5 .z PA.z Qph rfl rfl rfl rfl ?_)
     refine op (OpS.loadBi h5 .z PA.a (Get.fld Conversion_.f4) ty3 rfl rfl rfl ?_)
     refine gb rfl (gk rfl (gm rfl ?_))
     refine RunL.caseb hF (λ e13 hF=>?_) (λ e13 hF=>?_)
     ·refine op (OpS.fbox (o3:=5) h5 .z PA.z Qpd rfl rfl rfl rfl ?_)
      refine op (OpS.loadBi h5 .z PA.a (Get.fld Conversion_.f5) ty3 rfl rfl rfl ?_)
      refine gb rfl (gk rfl (gm rfl ?_))
      refine RunL.caseb hF (λ e14 hF=>?_) (λ e14 hF=>?_)
      ·refine op (OpS.fbox (o3:=6) h5 .z PA.z Qnu rfl rfl rfl rfl ?_)
       refine op (OpS.loadB h5 .z PA.a (Get.fld Conversion_.f6) ty67 rfl rfl rfl (λ u6 h10=>?_))
       refine op (OpS.len h10 Tryz.underlying67 rfl rfl rfl (V.at .z) ?_)
       refine gb rfl (gk rfl (ga rfl ?_))
       obtain ⟨x3,e15,hF⟩:=Qh hF
       refine RunL.nameb e15 ?_
       refine nil (Run.slim [(4,.bool x3),(1,u1)] ⟨rfl,rfl,trivial⟩ ?_)
       refine Run.slim [(1,u1),(4,.bool x3)] ⟨rfl,rfl,trivial⟩ ?_
       exact hj1 (x3) _ _ ⟨rfl,(h10.facts .nil).picks (.cons (.s .z) .nil)⟩ hF
      refine gp rfl (gp rfl (gp rfl (gp rfl (gk rfl (ga rfl (nil (Run.slim [(4,.bool false),(1,u1)] ⟨rfl,rfl,trivial⟩ ?_)))))))
      refine Run.slim [(1,u1),(4,.bool false)] ⟨rfl,rfl,trivial⟩ ?_
      exact hj1 (false) _ _ ⟨rfl,(h5.facts .nil).picks (.cons (.s .z) .nil)⟩ hF
     refine gp rfl (gp rfl (gp rfl (gk rfl (gm rfl (gp rfl (gp rfl (gp rfl (gp rfl (gk rfl (ga rfl (nil (Run.slim [(4,.bool false),(1,u1)] ⟨rfl,rfl,trivial⟩ ?_))))))))))))
     refine Run.slim [(1,u1),(4,.bool false)] ⟨rfl,rfl,trivial⟩ ?_
     exact hj1 (false) _ _ ⟨rfl,(h5.facts .nil).picks (.cons (.s .z) .nil)⟩ hF
    refine gp rfl (gp rfl (gp rfl (gk rfl (gm rfl (gp rfl (gp rfl (gp rfl (gk rfl (gm rfl (gp rfl (gp rfl (gp rfl (gp rfl (gk rfl (ga rfl (nil ?_))))))))))))))))
    refine Run.slim [(4,.bool false),(1,u1)] ⟨rfl,rfl,trivial⟩ ?_
    refine Run.slim [(1,u1),(4,.bool false)] ⟨rfl,rfl,trivial⟩ ?_
    exact hj1 (false) _ _ ⟨rfl,(h5.facts .nil).picks (.cons (.s .z) .nil)⟩ hF
   refine gp rfl (gp rfl (gp rfl (gk rfl (gm rfl (gp rfl (gp rfl (gp rfl (gk rfl (gm rfl (gp rfl (gp rfl (gp rfl (gk rfl (gm rfl (gp rfl (gp rfl ?_))))))))))))))))
   refine gp rfl (gp rfl (gk rfl (ga rfl (nil (Run.slim [(4,.bool false),(1,u1)] ⟨rfl,rfl,trivial⟩ ?_)))))
   refine Run.slim [(1,u1),(4,.bool false)] ⟨rfl,rfl,trivial⟩ ?_
   exact hj1 (false) _ _ ⟨rfl,(h5.facts .nil).picks (.cons (.s .z) .nil)⟩ hF
  refine gp rfl (gp rfl (gp rfl (gk rfl (gm rfl (gp rfl (gp rfl (gp rfl (gk rfl (gm rfl (gp rfl (gp rfl (gp rfl (gk rfl (gm rfl (gp rfl (gp rfl ?_))))))))))))))))
  refine gp rfl (gk rfl (gm rfl (gp rfl (gp rfl (gp rfl (gp rfl (gk rfl (ga rfl (nil (Run.slim [(4,.bool false),(1,u1)] ⟨rfl,rfl,trivial⟩ ?_))))))))))
  refine Run.slim [(1,u1),(4,.bool false)] ⟨rfl,rfl,trivial⟩ ?_
  exact hj1 (false) _ _ ⟨rfl,(h5.facts .nil).picks (.cons (.s .z) .nil)⟩ hF
 refine gp rfl (gp rfl (gp rfl (gk rfl (gm rfl (gp rfl (gp rfl (gp rfl (gk rfl (gm rfl (gp rfl (gp rfl (gp rfl (gk rfl (gm rfl (gp rfl (gp rfl ?_))))))))))))))))
 refine gp rfl (gk rfl (gm rfl (gp rfl (gp rfl (gp rfl (gk rfl (gm rfl (gp rfl (gp rfl (gp rfl (gp rfl (gk rfl (ga rfl (nil (Run.slim [(4,.bool false),(1,u1)] ⟨rfl,rfl,trivial⟩ ?_)))))))))))))))
 refine Run.slim [(1,u1),(4,.bool false)] ⟨rfl,rfl,trivial⟩ ?_
 exact hj1 (false) _ _ ⟨rfl,(h5.facts .nil).picks (.cons (.s .z) .nil)⟩ hF
theorem Qio {fuel:Nat} {a0:Int} {y:Bool} (hF:Qdn fuel a0=some y) {w:World} :
  Spec Tryz.prog 173 [.int .i64 a0].toArray w [] [] (λ v Γr Ωr Ωo=>v=.bool y∧Γr=[]∧Ωr=[]∧Ωo=[]):=by
 refine Spec.of (L:=[(0,.int .i64 a0)]) Tryz.func173 rfl ⟨rfl,trivial⟩ rfl (λ e h=>?_)
 unfold Qdn at hF
 refine sr (ga rfl (nil (sr (gm rfl (gb rfl (gm rfl ?_))))))
 refine RunL.caseb hF (λ e1 hF=>?_) (λ e1 hF=>?_)
 ·refine gm rfl (gb rfl (gk rfl (ga rfl ?_)))
  obtain ⟨x1,e2,hF⟩:=Qh hF
  refine RunL.nameb e2 ?_
  refine nil (Run.retP rfl (.tmp rfl .nil) ?_)
  cases hF
  exact Post.mk' ⟨rfl,rfl,rfl,rfl⟩ (h.picks .nil) .nil
 refine gp rfl (gp rfl (gk rfl (ga rfl (nil (Run.retP rfl (.tmp rfl .nil) ?_)))))
 cases hF
 exact Post.mk' ⟨rfl,rfl,rfl,rfl⟩ (h.picks .nil) .nil
theorem Qjg {fuel:Nat} {a0:Int} {y:Bool} (hF:Qec fuel a0=some y) {w:World} :
  Spec Tryz.prog 174 [.int .i64 a0].toArray w [] [] (λ v Γr Ωr Ωo=>v=.bool y∧Γr=[]∧Ωr=[]∧Ωo=[]):=by
 refine Spec.of (L:=[(0,.int .i64 a0)]) Tryz.func174 rfl ⟨rfl,trivial⟩ rfl (λ e h=>?_)
 unfold Qec at hF
 refine sr (ga rfl (nil (sr (gm rfl (gb rfl (gm rfl ?_))))))
 refine RunL.caseb hF (λ e1 hF=>?_) (λ e1 hF=>?_)
 ·refine gm rfl (gb rfl (gk rfl (ga rfl ?_)))
  obtain ⟨x1,e2,hF⟩:=Qh hF
  refine RunL.nameb e2 ?_
  refine nil (Run.retP rfl (.tmp rfl .nil) ?_)
  cases hF
  exact Post.mk' ⟨rfl,rfl,rfl,rfl⟩ (h.picks .nil) .nil
 refine gp rfl (gp rfl (gk rfl (ga rfl (nil (Run.retP rfl (.tmp rfl .nil) ?_)))))
 cases hF
 exact Post.mk' ⟨rfl,rfl,rfl,rfl⟩ (h.picks .nil) .nil
theorem Qht {fuel:Nat} {a0:Int} {y:Int} (hF:Qhv fuel a0=some y) {w:World} :
  Spec Tryz.prog 118 [.int .i64 a0].toArray w [] [] (λ v Γr Ωr Ωo=>v=.int .i64 y∧Γr=[]∧Ωr=[]∧Ωo=[]):=by
 refine Spec.of (L:=[(0,.int .i64 a0)]) Tryz.func118 rfl ⟨rfl,trivial⟩ rfl (λ e h=>?_)
 unfold Qhv at hF
 refine sr (ga rfl (nil (sr (gm rfl (op (OpS.mini rfl rfl rfl rfl ?_))))))
 refine op (OpS.maxi rfl rfl rfl rfl ?_)
 refine ga rfl ?_
 obtain ⟨x1,e1,hF⟩:=Qh hF
 refine RunL.name e1 ?_
 refine nil (Run.retP rfl (.tmp rfl .nil) ?_)
 cases hF
 exact Post.mk' ⟨rfl,rfl,rfl,rfl⟩ (h.picks .nil) .nil
theorem Qbj {fuel:Nat} {a0:Bool} {a1:Int} {y:Int} (hF:Qas fuel a0 a1=some y) {w:World} :
  Spec Tryz.prog 51 [.bool a0,.int .u8 a1].toArray w [] [] (λ v Γr Ωr Ωo=>v=.int .i64 y∧Γr=[]∧Ωr=[]∧Ωo=[]):=by
 refine Spec.of (L:=[(0,.bool a0),(1,.int .u8 a1)]) Tryz.func51 rfl ⟨rfl,rfl,trivial⟩ rfl (λ e h=>?_)
 unfold Qas at hF
 refine sr (ga rfl (nil (Run.seq (sr (gm rfl (nil ?_))))))
 refine Run.ite rfl hF (λ e1 hF=>?_) (λ e1 hF=>?_)
 ·refine sr (gm rfl (op (OpS.conv Tryz.underlying5 Tryz.underlying238 rfl rfl rfl ?_)))
  refine op (OpS.conv Tryz.underlying238 Tryz.underlying3 rfl rfl rfl ?_)
  refine ga rfl ?_
  obtain ⟨x1,e2,hF⟩:=Qh hF
  refine RunL.name e2 ?_
  refine nil (Run.retP rfl (.tmp rfl .nil) ?_)
  cases hF
  exact Post.mk' ⟨rfl,rfl,rfl,rfl⟩ (h.picks .nil) .nil
 refine Run.skip (sr (gm rfl (op (OpS.conv Tryz.underlying5 Tryz.underlying3 rfl rfl rfl ?_))))
 refine ga rfl (nil (Run.retP rfl (.tmp rfl .nil) ?_))
 cases hF
 exact Post.mk' ⟨rfl,rfl,rfl,rfl⟩ (h.picks .nil) .nil
set_option maxHeartbeats 8000000 in set_option maxRecDepth 20000 in
theorem Qmj {fuel:Nat} {a0:Conversion_} {y:Bool} (hF:Qfl fuel a0=some y) {w:World} {v0:Value} :
  Spec Tryz.prog 175 [v0].toArray w [(false,.val Conversion_.rep v0 a0)] [] (λ v Γr Ωr Ωo=>v=.bool y∧Γr=[]∧Ωr=[]∧Ωo=[]):=by
 refine Spec.of (L:=[(0,v0)]) Tryz.func175 rfl ⟨rfl,trivial⟩ rfl (λ e h=>?_)
 unfold Qfl at hF
 refine sr (op (OpS.boxF h rfl rfl rfl (V.at .z) (λ u1 w1 h1=>?_)))
 refine ga rfl (nil (Run.seq (sr (op (OpS.fbox (o3:=6) h1 .z PA.z Qnu rfl rfl rfl rfl ?_)))))
 refine op (OpS.loadB h1 .z PA.a (Get.fld Conversion_.f6) ty67 rfl rfl rfl (λ u2 h2=>?_))
 refine op (OpS.len h2 Tryz.underlying67 rfl rfl rfl (V.at .z) ?_)
 refine gb rfl (gm rfl ?_)
 refine RunL.join (σ:=Bool) (λ s_ L_ w_=>L_=[(1,u1),(14,.bool s_)]∧St e w_ [] [(false,.box 69 Conversion_.rep u1 a0)]) hF (λ s1 _ w2 hI hF=>?_) (λ j1 hj1 hF=>?_)
 ·obtain ⟨rfl,h3⟩:=hI
  refine Run.ite rfl hF (λ e1 hF=>?_) (λ e1 hF=>?_)
  ·refine sr (ga rfl (nil (Run.retP rfl (.tmp rfl .nil) ?_)))
   cases hF
   exact Post.mk' ⟨rfl,rfl,rfl,rfl⟩ (h3.picks .nil) .nil
  refine Run.skip (Run.seq (sr (op (OpS.fbox (o3:=6) h3 .z PA.z Qnu rfl rfl rfl rfl ?_))))
  refine op (OpS.loadB h3 .z PA.a (Get.fld Conversion_.f6) ty67 rfl rfl rfl (λ u3 h4=>?_))
  refine op (OpS.len h4 Tryz.underlying67 rfl rfl rfl (V.at .z) ?_)
  refine gm rfl (nil (Run.block (Run.slim [(1,u1),(16,u3),(17,.int .i64 (a0.Points.length:Int)),(18,.int .i64 0)] ⟨rfl,rfl,rfl,rfl,trivial⟩ ?_)))
  refine Run.loopP (σ:=Int) (λ s_ L_ w_=>L_=[(1,u1),(16,u3),(17,.int .i64 (a0.Points.length:Int)),(18,.int .i64 s_)]∧St e w_ [(false,.val (Rep.slice Point_.rep) u3 a0.Points)] [(false,.box 69 Conversion_.rep u1 a0)]) hF ⟨rfl,(h4.facts (.atm .z .nil)).picks (.cons .z .nil)⟩ (λ k1 hk1 s2 _ w3 hI hF=>?_)
  obtain ⟨rfl,h5⟩:=hI
  refine sr (gb rfl (nil (Run.seq ?_)))
  refine Run.ite rfl hF (λ e2 hF=>?_) (λ e2 hF=>?_)
  ·refine Run.skip (Run.seq (Run.block (sr (gm rfl ?_))))
   obtain ⟨x1,e3,hF⟩:=Qa hF
   refine op (OpS.iptr h5 Tryz.underlying67 ty211 rfl rfl rfl rfl (V.at .z) e3 (λ u4 h6=>?_))
   refine op (OpS.load h6 ty211 rfl rfl rfl .z (λ u5 h7=>?_))
   refine op (OpS.alloc h7 ti211 Point_.zr rfl rfl (λ u6 w4 h8=>?_))
   refine ga rfl ?_
   have h9:=(h8.pick .z).weak
   refine op (OpS.storeB (f':=false) h9 .z PA.z Put.id ty211 rfl rfl rfl (V.at .z) (.inr rfl) (λ w5 h10=>?_))
   refine nil (Run.seq ?_)
   refine Run.join (σ:=Bool) (λ s_ L_ w_=>L_=[(1,u1),(16,u3),(17,.int .i64 (a0.Points.length:Int)),(18,.int .i64 s2),(50,.bool s_)]∧St e w_ [(false,.val (Rep.slice Point_.rep) u3 a0.Points)] [(false,.box 69 Conversion_.rep u1 a0)]) hF (λ s3 _ w6 hI hF=>?_) (λ j2 hj2 hF=>?_)
   ·obtain ⟨rfl,h11⟩:=hI
    refine Run.ite rfl hF (λ e4 hF=>?_) (λ e4 hF=>?_)
    ·refine sr (ga rfl (nil (Run.retP rfl (.tmp rfl .nil) ?_)))
     cases hF
     exact Post.mk' ⟨rfl,rfl,rfl,rfl⟩ (h11.picks .nil) .nil
    refine Run.skip (Run.endBlock (Run.reg (gb rfl (gm rfl (nil (Run.slim [(1,u1),(16,u3),(17,.int .i64 (a0.Points.length:Int)),(18,.int .i64 (IntKind.i64.wrap (s2+1)))] ⟨rfl,rfl,rfl,rfl,trivial⟩ ?_))))))
    exact hk1 ((IntKind.i64.wrap (s2+1))) _ _ ⟨rfl,(h11.facts (.atm .z .nil)).picks (.cons .z .nil)⟩ hF
   obtain ⟨y1,e5,hF⟩:=Qa hF
   obtain ⟨x2,e6,hF⟩:=Qh hF
   refine Qap hF (λ e7 hF=>?_) (λ e7 hF=>?_)
   ·have hG:=hF
    subst e7
    have hF:=hG
    refine Run.drawV (Ωs:=[]) [.kr 23 (padd u6 1) [0],.kr 24 (.int .i64 x1.Value) [0],.k 25 (.int .i64 y1),.kr 26 (padd u6 1) [0],.kr 27 (.int .i64 x1.Value) [0],.k 28 (.bool (y1 != x1.Value)),.k 29 (.bool true),.k 30 undef,.k 31 undef,.k 32 undef,.k 33 undef,.k 34 undef,.k 35 undef,.k 36 undef,.k 37 undef,.k 38 undef,.k 39 undef,.k 40 undef,.k 41 undef,.k 42 undef,.k 43 undef,.k 44 undef,.k 45 undef,.k 46 undef] [[],[0],[1],[],[3],[2,4],[5],[6],[6],[6],[9],[9],[9],[9],[9],[9],[9],[9],[9],[9],[9],[9],[9],[9]] [[(false,.box 211 Point_.rep u6 x1)],[(false,.box 69 Conversion_.rep u1 a0)]] [0,1,2,3,4,5,6,7,8,9,10,11,12,13,14,15,16,17,18,19,20,21,22,23,24,25] Qi rfl rfl rfl h10 (.cons ?_ (.cons ?_ (.cons ?_ (.cons ?_ (.cons ?_ (.cons ?_ (.cons ?_ (.cons (dp λ _=>rfl) (.cons (dp λ _=>rfl) (.cons (dp λ _=>rfl) (.cons (dp λ _=>rfl) (.cons (dp λ _=>rfl) (.cons (dp λ _=>rfl) (.cons (dp λ _=>rfl) (.cons (dp λ _=>rfl) (.cons (dp λ _=>rfl) (.cons (dp λ _=>rfl) (.cons (dp λ _=>rfl) (.cons (dp λ _=>rfl) (.cons (dp λ _=>rfl) (.cons (dp λ _=>rfl) (.cons (dp λ _=>rfl) (.cons (dp λ _=>rfl) (.cons (dp λ _=>rfl) .nil)))))))))))))))))))))))) (λ q1 w hq1 h=>?_)
    ·intro q1 w Γx Ωx h
     refine OpS.fbox (o3:=1) h .z PA.z Qje rfl rfl rfl rfl ?_
     exact du h
    ·intro q1 w Γx Ωx h
     refine OpS.loadBi h .z PA.a (Get.fld Point_.f1) ty2 rfl rfl rfl ?_
     exact du h
    ·intro q1 w Γx Ωx h
     refine OpS.callP h Tryz.func118 rfl rfl rfl rfl (vs:=[.int .i64 x1.Value]) rfl (Qht e5) .nil ?_
     rintro _ w8 _ _ _ ⟨rfl,rfl,rfl,rfl⟩ h14
     have h15:=h14 rfl rfl
     simp only [ca,na] at h15
     exact ⟨undef,rfl,trivial,h15⟩
    ·intro q1 w Γx Ωx h
     refine OpS.fbox (o3:=1) h .z PA.z Qje rfl rfl rfl rfl ?_
     exact du h
    ·intro q1 w Γx Ωx h
     refine OpS.loadBi h .z PA.a (Get.fld Point_.f1) ty2 rfl rfl rfl ?_
     exact du h
    ·intro q1 w Γx Ωx h
     refine OpS.bin rfl rfl rfl rfl rfl ?_
     exact du h
    ·intro q1 w Γx Ωx h
     refine OpS.mv rfl rfl rfl ?_
     exact ⟨undef,(congrArg (λ z_=>some (Value.bool z_)) e6),trivial,h⟩
    have h16:=h
    refine gp rfl (gp rfl (gp rfl (gk rfl (nil (Run.slim [(50,.bool true),(1,u1),(16,u3),(17,.int .i64 (a0.Points.length:Int)),(18,.int .i64 s2)] ⟨rfl,rfl,rfl,rfl,rfl,trivial⟩ ?_)))))
    refine Run.slim [(1,u1),(16,u3),(17,.int .i64 (a0.Points.length:Int)),(18,.int .i64 s2),(50,.bool true)] ⟨rfl,rfl,rfl,rfl,rfl,trivial⟩ ?_
    exact hj2 (true) _ _ ⟨rfl,(h16.facts (.atm (.s (.s .z)) .nil)).picks (.cons (.s .z) .nil)⟩ hF
   have hG:=hF
   subst e7
   have hF:=hG
   obtain ⟨x3,e8,hF⟩:=Qh hF
   refine Qap hF (λ e9 hF=>?_) (λ e9 hF=>?_)
   ·have hG:=hF
    subst e9
    have hF:=hG
    obtain ⟨x4,e10,hF⟩:=Qa hF
    obtain ⟨y2,e11,hF⟩:=Qa hF
    refine Run.drawV (Ωs:=[]) [.kr 23 (padd u6 1) [0],.kr 24 (.int .i64 x1.Value) [0],.k 25 (.int .i64 y1),.kr 26 (padd u6 1) [0],.kr 27 (.int .i64 x1.Value) [0],.k 28 (.bool (y1 != x1.Value)),.k 29 (.bool false),.k 30 (.int .i64 s2),.k 31 (.bool (decide (s2>0))),.k 32 (.bool true),.kr 33 (padd u1 1) [1],.kr 34 (.bool a0.Signed) [1],.kr 35 (padd u1 6) [1],.fr 36 (λ u_=>[(false,.val (Rep.slice Point_.rep) u_ a0.Points)]) [1],.k 37 (.int .i64 s2),.k 38 (.int .i64 (IntKind.i64.wrap (s2-1))),.f 39 (λ u_=>[(false,.ptr Point_.rep u_ x4)]),.f 40 (λ u_=>[(false,.ptr (Rep.int .u8) u_ x4.Raw)]),.k 41 (.int .u8 x4.Raw),.k 42 (.int .i64 y2),.kr 43 (padd u1 1) [1],.kr 44 (.bool a0.Signed) [1],.kr 45 (padd u6 0) [0],.kr 46 (.int .u8 x1.Raw) [0]] [[],[0],[1],[],[3],[2,4],[5],[6],[7,6],[8,6],[9],[10,9],[9],[12,9],[9],[14,9],[13,15,9],[16,9],[17,9],[11,18,9],[9],[20,9],[9],[22,9]] [[(false,.box 211 Point_.rep u6 x1)],[(false,.box 69 Conversion_.rep u1 a0)]] [0,1,2,3,4,5,6,7,8,9,10,11,12,13,14,15,16,17,18,19,20,21,22,23,24,25] Qi rfl rfl rfl h10 (.cons ?_ (.cons ?_ (.cons ?_ (.cons ?_ (.cons ?_ (.cons ?_ (.cons ?_ (.cons ?_ (.cons ?_ (.cons ?_ (.cons ?_ (.cons ?_ (.cons ?_ (.cons ?_ (.cons ?_ (.cons ?_ (.cons ?_ (.cons ?_ (.cons ?_ (.cons ?_ (.cons ?_ (.cons ?_ (.cons ?_ (.cons ?_ .nil)))))))))))))))))))))))) (λ q1 w hq2 h=>?_)
    ·intro q1 w Γx Ωx h
     refine OpS.fbox (o3:=1) h .z PA.z Qje rfl rfl rfl rfl ?_
     exact du h
    ·intro q1 w Γx Ωx h
     refine OpS.loadBi h .z PA.a (Get.fld Point_.f1) ty2 rfl rfl rfl ?_
     exact du h
    ·intro q1 w Γx Ωx h
     refine OpS.callP h Tryz.func118 rfl rfl rfl rfl (vs:=[.int .i64 x1.Value]) rfl (Qht e5) .nil ?_
     rintro _ w10 _ _ _ ⟨rfl,rfl,rfl,rfl⟩ h22
     have h23:=h22 rfl rfl
     simp only [ca,na] at h23
     exact ⟨undef,rfl,trivial,h23⟩
    ·intro q1 w Γx Ωx h
     refine OpS.fbox (o3:=1) h .z PA.z Qje rfl rfl rfl rfl ?_
     exact du h
    ·intro q1 w Γx Ωx h
     refine OpS.loadBi h .z PA.a (Get.fld Point_.f1) ty2 rfl rfl rfl ?_
     exact du h
    ·intro q1 w Γx Ωx h
     refine OpS.bin rfl rfl rfl rfl rfl ?_
     exact du h
    ·intro q1 w Γx Ωx h
     refine OpS.mv rfl rfl rfl ?_
     exact ⟨undef,(congrArg (λ z_=>some (Value.bool z_)) e6),trivial,h⟩
    ·intro q1 w Γx Ωx h
     refine OpS.mv rfl rfl rfl ?_
     exact du h
    ·intro q1 w Γx Ωx h
     refine OpS.bin rfl rfl rfl rfl rfl ?_
     exact du h
    ·intro q1 w Γx Ωx h
     refine OpS.mv rfl rfl rfl ?_
     exact ⟨undef,(congrArg (λ z_=>some (Value.bool z_)) e8),trivial,h⟩
    ·intro q1 w Γx Ωx h
     refine OpS.fbox (o3:=1) h .z PA.z Qns rfl rfl rfl rfl ?_
     exact du h
    ·intro q1 w Γx Ωx h
     refine OpS.loadBb h .z PA.a (Get.fld Conversion_.f1) ty4 rfl rfl rfl ?_
     exact du h
    ·intro q1 w Γx Ωx h
     refine OpS.fbox (o3:=6) h .z PA.z Qnu rfl rfl rfl rfl ?_
     exact du h
    ·intro q1 w Γx Ωx h
     refine OpS.loadB h .z PA.a (Get.fld Conversion_.f6) ty67 rfl rfl rfl (λ u h24=>?_)
     exact ⟨u,rfl,trivial,h24⟩
    ·intro q1 w Γx Ωx h
     refine OpS.mv rfl rfl rfl ?_
     exact du h
    ·intro q1 w Γx Ωx h
     refine OpS.bin rfl rfl rfl rfl rfl ?_
     exact du h
    ·intro q1 w Γx Ωx h
     refine OpS.iptr h Tryz.underlying67 ty211 rfl rfl rfl rfl (V.at .z) e10 (λ u h25=>?_)
     exact ⟨u,rfl,trivial,h25⟩
    ·intro q1 w Γx Ωx h
     refine OpS.fptr h Qtr Point_.f0 rfl rfl rfl .z (λ u h26=>?_)
     exact ⟨u,rfl,trivial,h26⟩
    ·intro q1 w Γx Ωx h
     refine OpS.loadi h ty5 rfl rfl rfl .z ?_
     exact du h
    ·intro q1 w Γx Ωx h
     refine OpS.callP h Tryz.func51 rfl rfl rfl rfl (vs:=[.bool a0.Signed,.int .u8 x4.Raw]) rfl (Qbj e11) .nil ?_
     rintro _ w11 _ _ _ ⟨rfl,rfl,rfl,rfl⟩ h27
     have h28:=h27 rfl rfl
     simp only [ca,na] at h28
     exact ⟨undef,rfl,trivial,h28⟩
    ·intro q1 w Γx Ωx h
     refine OpS.fbox (o3:=1) h .z PA.z Qns rfl rfl rfl rfl ?_
     exact du h
    ·intro q1 w Γx Ωx h
     refine OpS.loadBb h .z PA.a (Get.fld Conversion_.f1) ty4 rfl rfl rfl ?_
     exact du h
    ·intro q1 w Γx Ωx h
     refine OpS.fbox (o3:=0) h .z PA.z Qtr rfl rfl rfl rfl ?_
     exact du h
    ·intro q1 w Γx Ωx h
     refine OpS.loadBi h .z PA.a (Get.fld Point_.f0) ty5 rfl rfl rfl ?_
     exact du h
    have h29:=h
    obtain ⟨y3,e12,hF⟩:=Qa hF
    refine op (OpS.callP h29 Tryz.func51 rfl rfl rfl rfl (vs:=[.bool a0.Signed,.int .u8 x1.Raw]) rfl (Qbj e12) .nil ?_)
    rintro _ w12 _ _ _ ⟨rfl,rfl,rfl,rfl⟩ h30
    have h31:=h30 rfl rfl
    simp only [ca,na] at h31
    refine gb rfl (gk rfl (gk rfl (nil (Run.slim [(50,.bool (decide (y2≥y3))),(1,u1),(16,u3),(17,.int .i64 (a0.Points.length:Int)),(18,.int .i64 s2)] ⟨rfl,rfl,rfl,rfl,rfl,trivial⟩ ?_))))
    refine Run.slim [(1,u1),(16,u3),(17,.int .i64 (a0.Points.length:Int)),(18,.int .i64 s2),(50,.bool (decide (y2≥y3)))] ⟨rfl,rfl,rfl,rfl,rfl,trivial⟩ ?_
    exact hj2 (decide (y2≥y3)) _ _ ⟨rfl,(h31.facts (.atm (.s (.s (.s (.s (.s .z))))) .nil)).picks (.cons (.s .z) .nil)⟩ hF
   have hG:=hF
   subst e9
   have hF:=hG
   refine Run.drawV (Ωs:=[]) [.kr 23 (padd u6 1) [0],.kr 24 (.int .i64 x1.Value) [0],.k 25 (.int .i64 y1),.kr 26 (padd u6 1) [0],.kr 27 (.int .i64 x1.Value) [0],.k 28 (.bool (y1 != x1.Value)),.k 29 (.bool false),.k 30 (.int .i64 s2),.k 31 (.bool (decide (s2>0))),.k 32 (.bool false),.k 33 undef,.k 34 undef,.k 35 undef,.k 36 undef,.k 37 undef,.k 38 undef,.k 39 undef,.k 40 undef,.k 41 undef,.k 42 undef,.k 43 undef,.k 44 undef,.k 45 undef,.k 46 undef] [[],[0],[1],[],[3],[2,4],[5],[6],[7,6],[8,6],[9],[9],[9],[9],[9],[9],[9],[9],[9],[9],[9],[9],[9],[9]] [[(false,.box 211 Point_.rep u6 x1)],[(false,.box 69 Conversion_.rep u1 a0)]] [0,1,2,3,4,5,6,7,8,9,10,11,12,13,14,15,16,17,18,19,20,21,22,23,24,25] Qi rfl rfl rfl h10 (.cons ?_ (.cons ?_ (.cons ?_ (.cons ?_ (.cons ?_ (.cons ?_ (.cons ?_ (.cons ?_ (.cons ?_ (.cons ?_ (.cons (dp λ _=>rfl) (.cons (dp λ _=>rfl) (.cons (dp λ _=>rfl) (.cons (dp λ _=>rfl) (.cons (dp λ _=>rfl) (.cons (dp λ _=>rfl) (.cons (dp λ _=>rfl) (.cons (dp λ _=>rfl) (.cons (dp λ _=>rfl) (.cons (dp λ _=>rfl) (.cons (dp λ _=>rfl) (.cons (dp λ _=>rfl) (.cons (dp λ _=>rfl) (.cons (dp λ _=>rfl) .nil)))))))))))))))))))))))) (λ q1 w hq3 h=>?_)
   ·intro q1 w Γx Ωx h
    refine OpS.fbox (o3:=1) h .z PA.z Qje rfl rfl rfl rfl ?_
    exact du h
   ·intro q1 w Γx Ωx h
    refine OpS.loadBi h .z PA.a (Get.fld Point_.f1) ty2 rfl rfl rfl ?_
    exact du h
   ·intro q1 w Γx Ωx h
    refine OpS.callP h Tryz.func118 rfl rfl rfl rfl (vs:=[.int .i64 x1.Value]) rfl (Qht e5) .nil ?_
    rintro _ w13 _ _ _ ⟨rfl,rfl,rfl,rfl⟩ h32
    have h33:=h32 rfl rfl
    simp only [ca,na] at h33
    exact ⟨undef,rfl,trivial,h33⟩
   ·intro q1 w Γx Ωx h
    refine OpS.fbox (o3:=1) h .z PA.z Qje rfl rfl rfl rfl ?_
    exact du h
   ·intro q1 w Γx Ωx h
    refine OpS.loadBi h .z PA.a (Get.fld Point_.f1) ty2 rfl rfl rfl ?_
    exact du h
   ·intro q1 w Γx Ωx h
    refine OpS.bin rfl rfl rfl rfl rfl ?_
    exact du h
   ·intro q1 w Γx Ωx h
    refine OpS.mv rfl rfl rfl ?_
    exact ⟨undef,(congrArg (λ z_=>some (Value.bool z_)) e6),trivial,h⟩
   ·intro q1 w Γx Ωx h
    refine OpS.mv rfl rfl rfl ?_
    exact du h
   ·intro q1 w Γx Ωx h
    refine OpS.bin rfl rfl rfl rfl rfl ?_
    exact du h
   ·intro q1 w Γx Ωx h
    refine OpS.mv rfl rfl rfl ?_
    exact ⟨undef,(congrArg (λ z_=>some (Value.bool z_)) e8),trivial,h⟩
   have h34:=h
   refine gp rfl (gp rfl (gk rfl (gk rfl (nil (Run.slim [(50,.bool false),(1,u1),(16,u3),(17,.int .i64 (a0.Points.length:Int)),(18,.int .i64 s2)] ⟨rfl,rfl,rfl,rfl,rfl,trivial⟩ ?_)))))
   refine Run.slim [(1,u1),(16,u3),(17,.int .i64 (a0.Points.length:Int)),(18,.int .i64 s2),(50,.bool false)] ⟨rfl,rfl,rfl,rfl,rfl,trivial⟩ ?_
   exact hj2 (false) _ _ ⟨rfl,(h34.facts (.atm (.s (.s .z)) .nil)).picks (.cons (.s .z) .nil)⟩ hF
  refine Run.exit rfl ?_
  refine sr (ga rfl (nil (Run.retP rfl (.tmp rfl .nil) ?_)))
  cases hF
  exact Post.mk' ⟨rfl,rfl,rfl,rfl⟩ (h5.picks .nil) .nil
 refine RunL.caseb hF (λ e13 hF=>?_) (λ e13 hF=>?_)
 ·refine gp rfl (gp rfl (gp rfl (gp rfl (gk rfl (nil (Run.slim [(1,u1),(14,.bool true)] ⟨rfl,rfl,trivial⟩ ?_))))))
  exact hj1 (true) _ _ ⟨rfl,(h2.facts .nil).picks (.cons .z .nil)⟩ hF
 refine op (OpS.fbox (o3:=6) h2 .z PA.z Qnu rfl rfl rfl rfl ?_)
 refine op (OpS.loadB h2 .z PA.a (Get.fld Conversion_.f6) ty67 rfl rfl rfl (λ u7 h35=>?_))
 refine op (OpS.len h35 Tryz.underlying67 rfl rfl rfl (V.at .z) ?_)
 refine gb rfl (gk rfl (nil (Run.slim [(1,u1),(14,.bool (decide ((a0.Points.length:Int)>12)))] ⟨rfl,rfl,trivial⟩ ?_)))
 exact hj1 (decide ((a0.Points.length:Int)>12)) _ _ ⟨rfl,(h35.facts .nil).picks (.cons .z .nil)⟩ hF
set_option maxHeartbeats 8000000 in set_option maxRecDepth 20000 in
theorem Qmn {fuel:Nat} {a0:Conversion_} {y:Bool} (hF:Qfm fuel a0=some y) {w:World} {v0:Value} :
  Spec Tryz.prog 103 [v0].toArray w [(false,.val Conversion_.rep v0 a0)] [] (λ v Γr Ωr Ωo=>v=.bool y∧Γr=[]∧Ωr=[]∧Ωo=[]):=by
 refine Spec.of (L:=[(0,v0)]) Tryz.func103 rfl ⟨rfl,trivial⟩ rfl (λ e h=>?_)
 unfold Qfm at hF
 refine sr (op (OpS.boxF h rfl rfl rfl (V.at .z) (λ u1 w1 h1=>?_)))
 refine ga rfl (nil (Run.seq (sr (op (OpS.fbox (o3:=0) h1 .z PA.z Qry rfl rfl rfl rfl ?_)))))
 refine op (OpS.loadBi h1 .z PA.a (Get.fld Conversion_.f0) ty3 rfl rfl rfl ?_)
 refine nil (Run.block (Run.seq (sr (gb rfl (ga rfl ?_)))))
 obtain ⟨x1,e1,hF⟩:=Qh hF
 refine RunL.nameb e1 ?_
 refine nil ?_
 refine Run.join (σ:=Bool) (λ s_ L_ w_=>L_=[(1,u1),(4,.int .i64 a0.Form),(5,.bool s_)]∧St e w_ [] [(false,.box 69 Conversion_.rep u1 a0)]) hF (λ s1 _ w2 hI hF=>?_) (λ j1 hj1 hF=>?_)
 ·obtain ⟨rfl,h2⟩:=hI
  refine Run.ite rfl hF (λ e2 hF=>?_) (λ e2 hF=>?_)
  ·refine sr (op (OpS.fbox (o3:=2) h2 .z PA.z Qoc rfl rfl rfl rfl ?_))
   refine op (OpS.loadBi h2 .z PA.a (Get.fld Conversion_.f2) ty3 rfl rfl rfl ?_)
   obtain ⟨y1,e3,hF⟩:=Qa hF
   refine op (OpS.callP h2 Tryz.func173 rfl rfl rfl rfl (vs:=[.int .i64 a0.M]) rfl (Qio e3) .nil ?_)
   rintro _ w3 _ _ _ ⟨rfl,rfl,rfl,rfl⟩ h3
   have h4:=h3 rfl rfl
   simp only [ca,na] at h4
   refine gm rfl ?_
   refine RunL.caseb hF (λ e4 hF=>?_) (λ e4 hF=>?_)
   ·refine op (OpS.fbox (o3:=3) h4 .z PA.z Qoi rfl rfl rfl rfl ?_)
    refine op (OpS.loadBi h4 .z PA.a (Get.fld Conversion_.f3) ty3 rfl rfl rfl ?_)
    obtain ⟨y2,e5,hF⟩:=Qa hF
    refine op (OpS.callP h4 Tryz.func173 rfl rfl rfl rfl (vs:=[.int .i64 a0.B]) rfl (Qio e5) .nil ?_)
    rintro _ w4 _ _ _ ⟨rfl,rfl,rfl,rfl⟩ h5
    have h6:=h5 rfl rfl
    simp only [ca,na] at h6
    refine gk rfl (gm rfl ?_)
    refine RunL.caseb hF (λ e6 hF=>?_) (λ e6 hF=>?_)
    ·refine op (OpS.fbox (o3:=4) h6 .z PA.z Qph rfl rfl rfl rfl ?_)
     refine op (OpS.loadBi h6 .z PA.a (Get.fld Conversion_.f4) ty3 rfl rfl rfl ?_)
     obtain ⟨y3,e7,hF⟩:=Qa hF
     refine op (OpS.callP h6 Tryz.func174 rfl rfl rfl rfl (vs:=[.int .i64 a0.K1]) rfl (Qjg e7) .nil ?_)
     rintro _ w5 _ _ _ ⟨rfl,rfl,rfl,rfl⟩ h7
     have h8:=h7 rfl rfl
     simp only [ca,na] at h8
     refine gk rfl (gm rfl ?_)
     refine RunL.caseb hF (λ e8 hF=>?_) (λ e8 hF=>?_)
     ·refine op (OpS.fbox (o3:=5) h8 .z PA.z Qpd rfl rfl rfl rfl ?_)
      refine op (OpS.loadBi h8 .z PA.a (Get.fld Conversion_.f5) ty3 rfl rfl rfl ?_)
      obtain ⟨y4,e9,hF⟩:=Qa hF
      refine op (OpS.callP h8 Tryz.func174 rfl rfl rfl rfl (vs:=[.int .i64 a0.K2]) rfl (Qjg e9) .nil ?_)
      rintro _ w6 _ _ _ ⟨rfl,rfl,rfl,rfl⟩ h9
      have h10:=h9 rfl rfl
      simp only [ca,na] at h10
      refine gk rfl (gm rfl ?_)
      refine RunL.caseb hF (λ e10 hF=>?_) (λ e10 hF=>?_)
      ·refine op (OpS.fbox (o3:=6) h10 .z PA.z Qnu rfl rfl rfl rfl ?_)
       refine op (OpS.loadB h10 .z PA.a (Get.fld Conversion_.f6) ty67 rfl rfl rfl (λ u2 h11=>?_))
       refine op (OpS.len h11 Tryz.underlying67 rfl rfl rfl (V.at .z) ?_)
       refine gb rfl (gk rfl (ga rfl ?_))
       obtain ⟨x2,e11,hF⟩:=Qh hF
       refine RunL.nameb e11 ?_
       refine nil (Run.retP rfl (.tmp rfl .nil) ?_)
       cases hF
       exact Post.mk' ⟨rfl,rfl,rfl,rfl⟩ (h11.picks .nil) .nil
      refine gp rfl (gp rfl (gp rfl (gp rfl (gk rfl (ga rfl (nil (Run.retP rfl (.tmp rfl .nil) ?_)))))))
      cases hF
      exact Post.mk' ⟨rfl,rfl,rfl,rfl⟩ (h10.picks .nil) .nil
     refine gp rfl (gp rfl (gp rfl (gk rfl (gm rfl (gp rfl (gp rfl (gp rfl (gp rfl (gk rfl (ga rfl (nil (Run.retP rfl (.tmp rfl .nil) ?_))))))))))))
     cases hF
     exact Post.mk' ⟨rfl,rfl,rfl,rfl⟩ (h8.picks .nil) .nil
    refine gp rfl (gp rfl (gp rfl (gk rfl (gm rfl (gp rfl (gp rfl (gp rfl (gk rfl (gm rfl (gp rfl (gp rfl (gp rfl (gp rfl (gk rfl (ga rfl (nil ?_))))))))))))))))
    refine Run.retP rfl (.tmp rfl .nil) ?_
    cases hF
    exact Post.mk' ⟨rfl,rfl,rfl,rfl⟩ (h6.picks .nil) .nil
   refine gp rfl (gp rfl (gp rfl (gk rfl (gm rfl (gp rfl (gp rfl (gp rfl (gk rfl (gm rfl (gp rfl (gp rfl (gp rfl (gk rfl (gm rfl (gp rfl (gp rfl ?_))))))))))))))))
   refine gp rfl (gp rfl (gk rfl (ga rfl (nil (Run.retP rfl (.tmp rfl .nil) ?_)))))
   cases hF
   exact Post.mk' ⟨rfl,rfl,rfl,rfl⟩ (h4.picks .nil) .nil
  refine sr (gb rfl (ga rfl ?_))
  obtain ⟨x3,e12,hF⟩:=Qh hF
  refine RunL.nameb e12 ?_
  refine nil ?_
  refine Run.ite rfl hF (λ e13 hF=>?_) (λ e13 hF=>?_)
  ·refine sr (op (OpS.fbox (o3:=2) h2 .z PA.z Qoc rfl rfl rfl rfl ?_))
   refine op (OpS.loadBi h2 .z PA.a (Get.fld Conversion_.f2) ty3 rfl rfl rfl ?_)
   refine gb rfl (gm rfl ?_)
   refine RunL.caseb hF (λ e14 hF=>?_) (λ e14 hF=>?_)
   ·refine op (OpS.fbox (o3:=3) h2 .z PA.z Qoi rfl rfl rfl rfl ?_)
    refine op (OpS.loadBi h2 .z PA.a (Get.fld Conversion_.f3) ty3 rfl rfl rfl ?_)
    refine gb rfl (gk rfl (gm rfl ?_))
    refine RunL.caseb hF (λ e15 hF=>?_) (λ e15 hF=>?_)
    ·refine op (OpS.fbox (o3:=4) h2 .z PA.z Qph rfl rfl rfl rfl ?_)
     refine op (OpS.loadBi h2 .z PA.a (Get.fld Conversion_.f4) ty3 rfl rfl rfl ?_)
     refine gb rfl (gk rfl (gm rfl ?_))
     refine RunL.caseb hF (λ e16 hF=>?_) (λ e16 hF=>?_)
     ·refine op (OpS.fbox (o3:=5) h2 .z PA.z Qpd rfl rfl rfl rfl ?_)
      refine op (OpS.loadBi h2 .z PA.a (Get.fld Conversion_.f5) ty3 rfl rfl rfl ?_)
      refine gb rfl (gk rfl (gm rfl ?_))
      refine RunL.caseb hF (λ e17 hF=>?_) (λ e17 hF=>?_)
      ·refine op (OpS.loadB h2 .z PA.z Get.id ty69 rfl rfl rfl (λ u3 h12=>?_))
       obtain ⟨y5,e18,hF⟩:=Qa hF
       refine op (OpS.callP h12 Tryz.func175 rfl rfl rfl rfl (vs:=[u3]) rfl (Qmj e18) (.cons (f:=false) (V.at .z) .nil) ?_)
       rintro _ w7 _ _ _ ⟨rfl,rfl,rfl,rfl⟩ h13
       have h14:=h13 rfl rfl
       simp only [ca,na] at h14
       refine gk rfl (ga rfl (nil (Run.retP rfl (.tmp rfl .nil) ?_)))
       cases hF
       exact Post.mk' ⟨rfl,rfl,rfl,rfl⟩ (h14.picks .nil) .nil
      refine gp rfl (gp rfl (gk rfl (ga rfl (nil (Run.retP rfl (.tmp rfl .nil) ?_)))))
      cases hF
      exact Post.mk' ⟨rfl,rfl,rfl,rfl⟩ (h2.picks .nil) .nil
     refine gp rfl (gp rfl (gp rfl (gk rfl (gm rfl (gp rfl (gp rfl (gk rfl (ga rfl (nil (Run.retP rfl (.tmp rfl .nil) ?_))))))))))
     cases hF
     exact Post.mk' ⟨rfl,rfl,rfl,rfl⟩ (h2.picks .nil) .nil
    refine gp rfl (gp rfl (gp rfl (gk rfl (gm rfl (gp rfl (gp rfl (gp rfl (gk rfl (gm rfl (gp rfl (gp rfl (gk rfl (ga rfl (nil (Run.retP rfl (.tmp rfl .nil) ?_)))))))))))))))
    cases hF
    exact Post.mk' ⟨rfl,rfl,rfl,rfl⟩ (h2.picks .nil) .nil
   refine gp rfl (gp rfl (gp rfl (gk rfl (gm rfl (gp rfl (gp rfl (gp rfl (gk rfl (gm rfl (gp rfl (gp rfl (gp rfl (gk rfl (gm rfl (gp rfl (gp rfl ?_))))))))))))))))
   refine gk rfl (ga rfl (nil (Run.retP rfl (.tmp rfl .nil) ?_)))
   cases hF
   exact Post.mk' ⟨rfl,rfl,rfl,rfl⟩ (h2.picks .nil) .nil
  refine Run.skip (Run.endBlock (sr (ga rfl (nil (Run.retP rfl (.tmp rfl .nil) ?_)))))
  cases hF
  exact Post.mk' ⟨rfl,rfl,rfl,rfl⟩ (h2.picks .nil) .nil
 refine Run.ite rfl hF (λ e19 hF=>?_) (λ e19 hF=>?_)
 ·refine Run.skip (Run.slim [(1,u1),(4,.int .i64 a0.Form),(5,.bool x1)] ⟨rfl,rfl,rfl,trivial⟩ ?_)
  exact hj1 (x1) _ _ ⟨rfl,(h1.facts .nil).picks (.cons .z .nil)⟩ hF
 refine sr (gb rfl (ga rfl ?_))
 obtain ⟨x4,e20,hF⟩:=Qh hF
 refine RunL.nameb e20 ?_
 refine nil ?_
 refine Run.ite rfl hF (λ e21 hF=>?_) (λ e21 hF=>?_)
 ·refine Run.skip (Run.slim [(1,u1),(4,.int .i64 a0.Form),(5,.bool x4)] ⟨rfl,rfl,rfl,trivial⟩ ?_)
  exact hj1 (x4) _ _ ⟨rfl,(h1.facts .nil).picks (.cons .z .nil)⟩ hF
 refine sr (gb rfl (ga rfl ?_))
 obtain ⟨x5,e22,hF⟩:=Qh hF
 refine RunL.nameb e22 ?_
 refine nil ?_
 refine Run.ite rfl hF (λ e23 hF=>?_) (λ e23 hF=>?_)
 ·refine Run.skip (Run.slim [(1,u1),(4,.int .i64 a0.Form),(5,.bool x5)] ⟨rfl,rfl,rfl,trivial⟩ ?_)
  exact hj1 (x5) _ _ ⟨rfl,(h1.facts .nil).picks (.cons .z .nil)⟩ hF
 refine Run.reg (gb rfl (ga rfl ?_))
 obtain ⟨x6,e24,hF⟩:=Qh hF
 refine RunL.nameb e24 ?_
 refine nil (Run.slim [(1,u1),(4,.int .i64 a0.Form),(5,.bool x6)] ⟨rfl,rfl,rfl,trivial⟩ ?_)
 exact hj1 (x6) _ _ ⟨rfl,(h1.facts .nil).picks (.cons .z .nil)⟩ hF
theorem Qfd {fuel:Nat} {a0:Int} {y:Bool} (hF:Qbp fuel a0=some y) {w:World} :
  Spec Tryz.prog 216 [.int .i64 a0].toArray w [] [] (λ v Γr Ωr Ωo=>v=.bool y∧Γr=[]∧Ωr=[]∧Ωo=[]):=by
 refine Spec.of (L:=[(0,.int .i64 a0)]) Tryz.func216 rfl ⟨rfl,trivial⟩ rfl (λ e h=>?_)
 unfold Qbp at hF
 refine sr (ga rfl (nil (sr (gm rfl (gm rfl (gb rfl (ga rfl ?_)))))))
 obtain ⟨x1,e1,hF⟩:=Qh hF
 refine RunL.nameb e1 ?_
 refine nil (Run.retP rfl (.tmp rfl .nil) ?_)
 cases hF
 exact Post.mk' ⟨rfl,rfl,rfl,rfl⟩ (h.picks .nil) .nil
theorem Qnf {fuel:Nat} {a0:Int} {a1:Int} {y:Bool} (hF:Qfw fuel a0 a1=some y) {w:World} :
  Spec Tryz.prog 271 [.int .i64 a0,.int .i64 a1].toArray w [] [] (λ v Γr Ωr Ωo=>v=.bool y∧Γr=[]∧Ωr=[]∧Ωo=[]):=by
 refine Spec.of (L:=[(0,.int .i64 a0),(1,.int .i64 a1)]) Tryz.func271 rfl ⟨rfl,rfl,trivial⟩ rfl (λ e h=>?_)
 unfold Qfw at hF
 refine sr (ga rfl (nil (sr (gm rfl ?_))))
 obtain ⟨y1,e1,hF⟩:=Qa hF
 refine op (OpS.callP h Tryz.func216 rfl rfl rfl rfl (vs:=[.int .i64 a0]) rfl (Qfd e1) .nil ?_)
 rintro _ w1 _ _ _ ⟨rfl,rfl,rfl,rfl⟩ h1
 have h2:=h1 rfl rfl
 simp only [ca,na] at h2
 refine gm rfl ?_
 refine RunL.caseb hF (λ e2 hF=>?_) (λ e2 hF=>?_)
 ·refine gm rfl ?_
  obtain ⟨y2,e3,hF⟩:=Qa hF
  refine op (OpS.callP h2 Tryz.func216 rfl rfl rfl rfl (vs:=[.int .i64 a1]) rfl (Qfd e3) .nil ?_)
  rintro _ w2 _ _ _ ⟨rfl,rfl,rfl,rfl⟩ h3
  have h4:=h3 rfl rfl
  simp only [ca,na] at h4
  refine op (OpS.not rfl rfl rfl ?_)
  refine gk rfl (gm rfl ?_)
  refine RunL.caseb hF (λ e4 hF=>?_) (λ e4 hF=>?_)
  ·refine gp rfl (gp rfl (gp rfl (gk rfl (ga rfl (nil (Run.retP rfl (.tmp rfl .nil) ?_))))))
   cases hF
   exact Post.mk' ⟨rfl,rfl,rfl,rfl⟩ (h4.picks .nil) .nil
  refine gm rfl (gm rfl (gb rfl (gk rfl (ga rfl ?_))))
  obtain ⟨x1,e5,hF⟩:=Qh hF
  refine RunL.nameb e5 ?_
  refine nil (Run.retP rfl (.tmp rfl .nil) ?_)
  cases hF
  exact Post.mk' ⟨rfl,rfl,rfl,rfl⟩ (h4.picks .nil) .nil
 refine gp rfl (gp rfl (gp rfl (gk rfl (gm rfl (gm rfl (gm rfl (gb rfl (gk rfl (ga rfl ?_)))))))))
 obtain ⟨x2,e6,hF⟩:=Qh hF
 refine RunL.nameb e6 ?_
 refine nil (Run.retP rfl (.tmp rfl .nil) ?_)
 cases hF
 exact Post.mk' ⟨rfl,rfl,rfl,rfl⟩ (h2.picks .nil) .nil
set_option maxRecDepth 20000 in
theorem Qff {fuel:Nat} {a0:List Int} {y:Bool} (hF:Qau fuel a0=some y) {w:World} {v0:Value} :
  Spec Tryz.prog 252 [v0].toArray w [(false,.val (Rep.slice (Rep.int .i64)) v0 a0)] [] (λ v Γr Ωr Ωo=>v=.bool y∧Γr=[]∧Ωr=[]∧Ωo=[]):=by
 refine Spec.of (L:=[(0,v0)]) Tryz.func252 rfl ⟨rfl,trivial⟩ rfl (λ e h=>?_)
 unfold Qau at hF
 refine sr (ga rfl (nil (Run.seq (sr (gm rfl (op (OpS.len h Tryz.underlying22 rfl rfl rfl (V.at .z) ?_)))))))
 refine gb rfl (ga rfl ?_)
 obtain ⟨x1,e1,hF⟩:=Qh hF
 refine RunL.name e1 ?_
 refine nil (Run.block (Run.slim [(0,v0),(3,.int .i64 x1)] ⟨rfl,rfl,trivial⟩ ?_))
 refine Run.loopP (σ:=Int) (λ s_ L_ w_=>L_=[(0,v0),(3,.int .i64 s_)]∧St e w_ [(false,.val (Rep.slice (Rep.int .i64)) v0 a0)] []) hF ⟨rfl,(h.facts (.atm .z .nil)).picks .nil⟩ (λ k1 hk1 s1 _ w1 hI hF=>?_)
 obtain ⟨rfl,h1⟩:=hI
 refine Run.seq (sr (gm rfl (gb rfl (nil ?_))))
 refine Run.ite rfl hF (λ e2 hF=>?_) (λ e2 hF=>?_)
 ·refine Run.skip (Run.seq (Run.block (Run.seq ?_)))
  obtain ⟨x2,e3,hF⟩:=Qa hF
  obtain ⟨x3,e4,hF⟩:=Qa hF
  refine Run.drawV (Ωs:=[]) [.k 11 v0,.k 12 (.int .i64 s1),.f 13 (λ u_=>[(false,.ptr (Rep.int .i64) u_ x2)]),.k 14 (.int .i64 x2),.k 15 v0,.k 16 (.int .i64 s1),.k 17 (.int .i64 (IntKind.i64.wrap (s1-1))),.f 18 (λ u_=>[(false,.ptr (Rep.int .i64) u_ x3)]),.k 19 (.int .i64 x3)] [[],[],[0,1],[2],[],[],[5],[4,6],[7]] [] [0,1,2,3,4,5,6,7,8] Qi rfl rfl rfl h1 (.cons ?_ (.cons ?_ (.cons ?_ (.cons ?_ (.cons ?_ (.cons ?_ (.cons ?_ (.cons ?_ (.cons ?_ .nil))))))))) (λ q1 w hq1 h=>?_)
  ·intro q1 w Γx Ωx h
   refine OpS.mv rfl rfl rfl ?_
   exact du h
  ·intro q1 w Γx Ωx h
   refine OpS.mv rfl rfl rfl ?_
   exact du h
  ·intro q1 w Γx Ωx h
   refine OpS.iptr h Tryz.underlying22 ty3 rfl rfl rfl rfl (V.at .z) e3 (λ u h4=>?_)
   exact ⟨u,rfl,trivial,h4⟩
  ·intro q1 w Γx Ωx h
   refine OpS.loadi h ty3 rfl rfl rfl .z ?_
   exact du h
  ·intro q1 w Γx Ωx h
   refine OpS.mv rfl rfl rfl ?_
   exact du h
  ·intro q1 w Γx Ωx h
   refine OpS.mv rfl rfl rfl ?_
   exact du h
  ·intro q1 w Γx Ωx h
   refine OpS.bin rfl rfl rfl rfl rfl ?_
   exact du h
  ·intro q1 w Γx Ωx h
   refine OpS.iptr h Tryz.underlying22 ty3 rfl rfl rfl rfl (V.at .z) e4 (λ u h5=>?_)
   exact ⟨u,rfl,trivial,h5⟩
  ·intro q1 w Γx Ωx h
   refine OpS.loadi h ty3 rfl rfl rfl .z ?_
   exact du h
  have h6:=h
  obtain ⟨y1,e5,hF⟩:=Qa hF
  refine op (OpS.callP h6 Tryz.func271 rfl rfl rfl rfl (vs:=[.int .i64 x2,.int .i64 x3]) rfl (Qnf e5) .nil ?_)
  rintro _ w2 _ _ _ ⟨rfl,rfl,rfl,rfl⟩ h7
  have h8:=h7 rfl rfl
  simp only [ca,na] at h8
  refine nil ?_
  refine Run.ite rfl hF (λ e6 hF=>?_) (λ e6 hF=>?_)
  ·refine sr (ga rfl (nil (Run.retP rfl (.tmp rfl .nil) ?_)))
   cases hF
   exact Post.mk' ⟨rfl,rfl,rfl,rfl⟩ (h8.picks .nil) .nil
  refine Run.skip (Run.endBlock (Run.reg (gm rfl (gb rfl (ga rfl ?_)))))
  obtain ⟨x4,e7,hF⟩:=Qh hF
  refine RunL.name e7 ?_
  refine nil (Run.slim [(0,v0),(3,.int .i64 x4)] ⟨rfl,rfl,trivial⟩ ?_)
  exact hk1 (x4) _ _ ⟨rfl,(h8.facts (.atm (.s (.s .z)) .nil)).picks .nil⟩ hF
 refine Run.exit rfl ?_
 refine sr (ga rfl (nil (Run.retP rfl (.tmp rfl .nil) ?_)))
 cases hF
 exact Post.mk' ⟨rfl,rfl,rfl,rfl⟩ (h1.picks .nil) .nil
set_option maxRecDepth 20000 in
theorem Qgp {fuel:Nat} {a0:List Int} {a1:Sensor_} {y:(List Int)} (hF:Qat fuel a0 a1=some y) {w:World} {v0 v1:Value} :
  Spec Tryz.prog 251 [v0,v1].toArray w [(false,.val (Rep.slice (Rep.int .i64)) v0 a0),(false,.ptr Sensor_.rep v1 a1)] [] (λ v Γr Ωr Ωo=>∃ u0:Value,v=u0∧Γr=[]∧Ωr=[(true,(.slice 3 (Rep.int .i64) u0 y))]∧Ωo=[]):=by
 refine Spec.of (L:=[(0,v0),(1,v1)]) Tryz.func251 rfl ⟨rfl,rfl,trivial⟩ rfl (λ e h=>?_)
 unfold Qat at hF
 refine sr (ga rfl (nil (sr (ga rfl (nil (Run.seq (sr (gm rfl (op (OpS.len h Tryz.underlying22 rfl rfl rfl (V.at .z) ?_))))))))))
 refine gm rfl (nil (Run.block ?_))
 have h1:=St.nil 3 (Rep.int .i64) h
 refine Run.slim [(1,v1),(4,(.slice none 0 0)),(7,v0),(8,.int .i64 (a0.length:Int)),(9,.int .i64 0)] ⟨rfl,rfl,rfl,rfl,rfl,trivial⟩ ?_
 refine Run.loopP (σ:=(Int×(List Int))) (λ s_ L_ w_=>∃ u0_:Value,L_=[(1,v1),(4,u0_),(7,v0),(8,.int .i64 (a0.length:Int)),(9,.int .i64 s_.1)]∧St e w_ [(false,.ptr Sensor_.rep v1 a1),(false,.val (Rep.slice (Rep.int .i64)) v0 a0)] [(true,.slice 3 (Rep.int .i64) u0_ s_.2)]) hF ⟨(.slice none 0 0),rfl,(h1.facts (.atm (.s .z) (.atm .z .nil))).picks (.cons .z .nil)⟩ (λ k1 hk1 s1 _ w1 hI hF=>?_)
 obtain ⟨u1,rfl,h2⟩:=hI
 refine sr (gb rfl (nil (Run.seq ?_)))
 refine Run.ite rfl hF (λ e1 hF=>?_) (λ e1 hF=>?_)
 ·refine Run.skip (Run.seq (Run.block (sr ?_)))
  obtain ⟨x1,e2,hF⟩:=Qa hF
  refine op (OpS.iptr h2 Tryz.underlying22 ty3 rfl rfl rfl rfl (V.at (.s .z)) e2 (λ u2 h3=>?_))
  refine op (OpS.loadi h3 ty3 rfl rfl rfl .z ?_)
  refine ga rfl (nil (sr (op (OpS.fptr h3 Qnm Sensor_.f7 rfl rfl rfl (.s .z) (λ u3 h4=>?_)))))
  refine op (OpS.fptr h4 Qnt Thresholds_.f0 rfl rfl rfl .z (λ u4 h5=>?_))
  refine op (OpS.loadi h5 ty5 rfl rfl rfl .z ?_)
  refine gm rfl ?_
  obtain ⟨e3,hF⟩:=Qr hF
  refine op (OpS.shr rfl rfl rfl rfl e3 ?_)
  refine gb rfl (gb rfl (nil ?_))
  refine Run.ite rfl hF (λ e4 hF=>?_) (λ e4 hF=>?_)
  ·obtain ⟨x2,e5,hF⟩:=Qa hF
   obtain ⟨y1,e6,hF⟩:=Qa hF
   refine Run.drawV (Ωs:=[(true,.slice 3 (Rep.int .i64) u1 s1.2)]) [.k 20 u1,.f 21 (λ u_=>[(false,.ptr Conversion_.rep u_ a1.Conversion)]),.f 22 (λ u_=>[(false,.ptr Rep.bool u_ a1.Conversion.Signed)]),.k 23 (.bool a1.Conversion.Signed),.k 24 (.int .i64 x1),.f 25 (λ u_=>[(false,.ptr Thresholds_.rep u_ a1.Limits)]),.f 26 (λ u_=>[(false,.ptr (Rep.arr 6 (Rep.int .u8)) u_ a1.Limits.Raw)]),.f 27 (λ u_=>[(false,.ptr (Rep.int .u8) u_ x2)]),.k 28 (.int .u8 x2),.k 29 (.int .i64 y1),.f 30 (λ u_=>[(true,.val (Rep.slice (Rep.int .i64)) u_ ([y1]))])] [[],[],[1],[2],[],[],[5],[6,4],[7],[3,8],[9]] [] [0,1,2,3,4,5,6,7,8,9,10] Qi rfl rfl rfl h5 (.cons ?_ (.cons ?_ (.cons ?_ (.cons ?_ (.cons ?_ (.cons ?_ (.cons ?_ (.cons ?_ (.cons ?_ (.cons ?_ (.cons ?_ .nil))))))))))) (λ q1 w hq1 h=>?_)
   ·intro q1 w Γx Ωx h
    refine OpS.mv rfl rfl rfl ?_
    exact du h
   ·intro q1 w Γx Ωx h
    refine OpS.fptr h Qnq Sensor_.f6 rfl rfl rfl (.s (.s (.s .z))) (λ u h14=>?_)
    exact ⟨u,rfl,trivial,h14⟩
   ·intro q1 w Γx Ωx h
    refine OpS.fptr h Qns Conversion_.f1 rfl rfl rfl .z (λ u h15=>?_)
    exact ⟨u,rfl,trivial,h15⟩
   ·intro q1 w Γx Ωx h
    refine OpS.loadb h ty4 rfl rfl rfl .z ?_
    exact du h
   ·intro q1 w Γx Ωx h
    refine OpS.mv rfl rfl rfl ?_
    exact du h
   ·intro q1 w Γx Ωx h
    refine OpS.fptr h Qnm Sensor_.f7 rfl rfl rfl (.s (.s (.s .z))) (λ u h16=>?_)
    exact ⟨u,rfl,trivial,h16⟩
   ·intro q1 w Γx Ωx h
    refine OpS.fptr h Qnz Thresholds_.f1 rfl rfl rfl .z (λ u h17=>?_)
    exact ⟨u,rfl,trivial,h17⟩
   ·intro q1 w Γx Ωx h
    refine OpS.iarr h Tryz.underlying70 ty5 rfl rfl rfl rfl .z e5 (λ u h18=>?_)
    exact ⟨u,rfl,trivial,h18⟩
   ·intro q1 w Γx Ωx h
    refine OpS.loadi h ty5 rfl rfl rfl .z ?_
    exact du h
   ·intro q1 w Γx Ωx h
    refine OpS.callP h Tryz.func51 rfl rfl rfl rfl (vs:=[.bool a1.Conversion.Signed,.int .u8 x2]) rfl (Qbj e6) .nil ?_
    rintro _ w4 _ _ _ ⟨rfl,rfl,rfl,rfl⟩ h19
    have h20:=h19 rfl rfl
    simp only [ca,na] at h20
    exact ⟨undef,rfl,trivial,h20⟩
   ·intro q1 w Γx Ωx h
    refine OpS.lit (r:=(Rep.int .i64)) (f:=true) h Tryz.underlying22 ti3 rfl rfl rfl rfl rfl (.cons rfl V.int .nil) rfl rfl (λ u w5 h21=>?_)
    exact ⟨u,rfl,trivial,h21⟩
   have h22:=h
   obtain ⟨x3,e7,hF⟩:=Qa hF
   refine op (OpS.app (f':=true) h22 .z Tryz.underlying22 ti3 rfl rfl rfl rfl rfl rfl rfl (V.at (.s (.s (.s (.s (.s .z)))))) (.inr Pure.int) e7 (λ u5 w6 h23=>?_))
   refine ga rfl (nil (Run.endBlock (Run.reg (gb rfl (gm rfl (nil (Run.slim [(1,v1),(4,u5),(7,v0),(8,.int .i64 (a0.length:Int)),(9,.int .i64 (IntKind.i64.wrap (s1.1+1)))] ⟨rfl,rfl,rfl,rfl,rfl,trivial⟩ ?_)))))))
   exact hk1 ((IntKind.i64.wrap (s1.1+1)),x3) _ _ ⟨u5,rfl,(h23.facts (.atm (.s (.s (.s (.s (.s (.s (.s (.s (.s .z))))))))) (.atm (.s (.s (.s (.s (.s (.s (.s (.s (.s (.s .z)))))))))) .nil))).picks (.cons .z .nil)⟩ hF
  refine Run.skip (Run.endBlock (Run.reg (gb rfl (gm rfl (nil (Run.slim [(1,v1),(4,u1),(7,v0),(8,.int .i64 (a0.length:Int)),(9,.int .i64 (IntKind.i64.wrap (s1.1+1)))] ⟨rfl,rfl,rfl,rfl,rfl,trivial⟩ ?_))))))
  exact hk1 ((IntKind.i64.wrap (s1.1+1)),s1.2) _ _ ⟨u1,rfl,(h5.facts (.atm (.s (.s (.s .z))) (.atm (.s (.s (.s (.s .z)))) .nil))).picks (.cons .z .nil)⟩ hF
 refine Run.exit rfl ?_
 refine sr (gm rfl (ga rfl (nil (Run.retP rfl (.tmp rfl .nil) ?_))))
 cases hF
 exact Post.mk' ⟨u1,rfl,rfl,rfl,rfl⟩ (h2.picks (.cons .z .nil)) .nil
set_option maxHeartbeats 8000000 in set_option maxRecDepth 20000 in
theorem Qmc {fuel:Nat} {a0:Sensor_} {y:Bool} (hF:Qev fuel a0=some y) {w:World} {v0:Value} :
  Spec Tryz.prog 235 [v0].toArray w [(false,.val Sensor_.rep v0 a0)] [] (λ v Γr Ωr Ωo=>v=.bool y∧Γr=[]∧Ωr=[]∧Ωo=[]):=by
 refine Spec.of (L:=[(0,v0)]) Tryz.func235 rfl ⟨rfl,trivial⟩ rfl (λ e h=>?_)
 unfold Qev at hF
 refine sr (op (OpS.boxF h rfl rfl rfl (V.at .z) (λ u1 w1 h1=>?_)))
 refine ga rfl (nil (sr (op (OpS.mkf (fl:=[]) (cl:=[u1]) rfl rfl rfl rfl ?_))))
 have h2:=(h1.pick .z).freezeBox
 refine ga rfl (nil (sr (gm rfl (op (OpS.lit (r:=(Rep.int .i64)) (f:=true) h2 Tryz.underlying22 ti3 rfl rfl rfl rfl rfl (.cons rfl V.int (.cons rfl V.int (.cons rfl V.int .nil))) rfl rfl (λ u2 w2 h3=>?_))))))
 obtain ⟨y1,e1,hF⟩:=Qa hF
 refine op (OpS.callPF (fl:=[]) (cl:=[u1]) h3 Tryz.func251 rfl rfl rfl rfl rfl (vs:=[u2]) rfl (Qgp e1) (.cons (f:=true) (V.at .z) (.ptr (.s .z) .nil)) ?_)
 rintro u3 w3 _ _ _ ⟨_,rfl,rfl,rfl,rfl⟩ h4
 have h5:=h4 rfl rfl
 simp only [ca,na] at h5
 refine ga rfl ?_
 have h6:=(h5.pick .z).freeze
 refine nil (sr (gm rfl (op (OpS.lit (r:=(Rep.int .i64)) (f:=true) h6 Tryz.underlying22 ti3 rfl rfl rfl rfl rfl (.cons rfl V.int (.cons rfl V.int (.cons rfl V.int .nil))) rfl rfl (λ u4 w4 h7=>?_)))))
 obtain ⟨y2,e2,hF⟩:=Qa hF
 refine op (OpS.callPF (fl:=[]) (cl:=[u1]) h7 Tryz.func251 rfl rfl rfl rfl rfl (vs:=[u4]) rfl (Qgp e2) (.cons (f:=true) (V.at .z) (.ptr (.s (.s (.s .z))) .nil)) ?_)
 rintro u5 w5 _ _ _ ⟨_,rfl,rfl,rfl,rfl⟩ h8
 have h9:=h8 rfl rfl
 simp only [ca,na] at h9
 refine ga rfl ?_
 have h10:=(h9.pick .z).freeze
 refine nil (Run.seq ?_)
 refine Run.join (σ:=Bool) (λ s_ L_ w_=>L_=[(4,u3),(5,u5),(6,.bool s_)]∧St e w_ [(true,.val (Rep.slice (Rep.int .i64)) u3 y1),(true,.val (Rep.slice (Rep.int .i64)) u5 y2)] []) hF (λ s1 _ w6 hI hF=>?_) (λ j1 hj1 hF=>?_)
 ·obtain ⟨rfl,h11⟩:=hI
  refine sr (gm rfl ?_)
  obtain ⟨y3,e3,hF⟩:=Qa hF
  refine op (OpS.callP h11 Tryz.func252 rfl rfl rfl rfl (vs:=[u3]) rfl (Qff e3) (.cons (f:=true) (V.at .z) .nil) ?_)
  rintro _ w7 _ _ _ ⟨rfl,rfl,rfl,rfl⟩ h12
  have h13:=h12 rfl rfl
  simp only [ca,na] at h13
  refine gm rfl ?_
  refine RunL.caseb hF (λ e4 hF=>?_) (λ e4 hF=>?_)
  ·refine gm rfl ?_
   obtain ⟨y4,e5,hF⟩:=Qa hF
   refine op (OpS.callP h13 Tryz.func252 rfl rfl rfl rfl (vs:=[u5]) rfl (Qff e5) (.cons (f:=true) (V.at (.s .z)) .nil) ?_)
   rintro _ w8 _ _ _ ⟨rfl,rfl,rfl,rfl⟩ h14
   have h15:=h14 rfl rfl
   simp only [ca,na] at h15
   refine gk rfl (gm rfl ?_)
   refine RunL.caseb hF (λ e6 hF=>?_) (λ e6 hF=>?_)
   ·refine gm rfl (gk rfl (ga rfl (nil (Run.retP rfl (.tmp rfl .nil) ?_))))
    cases hF
    exact Post.mk' ⟨rfl,rfl,rfl,rfl⟩ (h15.picks .nil) .nil
   refine gp rfl (gk rfl (ga rfl (nil (Run.retP rfl (.tmp rfl .nil) ?_))))
   cases hF
   exact Post.mk' ⟨rfl,rfl,rfl,rfl⟩ (h15.picks .nil) .nil
  refine gp rfl (gp rfl (gk rfl (gm rfl (gp rfl (gk rfl (ga rfl (nil (Run.retP rfl (.tmp rfl .nil) ?_))))))))
  cases hF
  exact Post.mk' ⟨rfl,rfl,rfl,rfl⟩ (h13.picks .nil) .nil
 obtain ⟨x1,e7,hF⟩:=Qh hF
 refine Qap hF (λ e8 hF=>?_) (λ e8 hF=>?_)
 ·have hG:=hF
  subst e8
  have hF:=hG
  refine Run.drawV (Ωs:=[]) [.k 14 u3,.k 15 (.int .i64 (y1.length:Int)),.k 16 (.bool ((y1.length:Int)==0)),.k 17 (.bool true),.k 18 undef,.k 19 undef,.k 20 undef,.k 21 (.bool true),.k 22 (.bool true),.k 23 undef,.k 24 undef,.k 25 undef,.k 26 undef,.k 27 undef,.k 28 undef,.k 29 undef,.k 30 undef,.k 31 undef] [[],[0],[1],[2],[3],[3],[3],[3,6],[7],[8],[8],[8],[8],[8],[8],[8],[8],[8]] [] [0,1,2,3,4,5,6,7,8,9,10,11,12,13,14,15,16,17] Qi rfl rfl rfl h10 (.cons ?_ (.cons ?_ (.cons ?_ (.cons ?_ (.cons (dp λ _=>rfl) (.cons (dp λ _=>rfl) (.cons (dp λ _=>rfl) (.cons ?_ (.cons ?_ (.cons (dp λ _=>rfl) (.cons (dp λ _=>rfl) (.cons (dp λ _=>rfl) (.cons (dp λ _=>rfl) (.cons (dp λ _=>rfl) (.cons (dp λ _=>rfl) (.cons (dp λ _=>rfl) (.cons (dp λ _=>rfl) (.cons (dp λ _=>rfl) .nil)))))))))))))))))) (λ q1 w hq1 h=>?_)
  ·intro q1 w Γx Ωx h
   refine OpS.mv rfl rfl rfl ?_
   exact du h
  ·intro q1 w Γx Ωx h
   refine OpS.len h Tryz.underlying22 rfl rfl rfl (V.at (.s (.s .z))) ?_
   exact du h
  ·intro q1 w Γx Ωx h
   refine OpS.bin rfl rfl rfl rfl rfl ?_
   exact du h
  ·intro q1 w Γx Ωx h
   refine OpS.mv rfl rfl rfl ?_
   exact ⟨undef,(congrArg (λ z_=>some (Value.bool z_)) e7),trivial,h⟩
  ·intro q1 w Γx Ωx h
   refine OpS.pick rfl rfl rfl rfl ?_
   exact du h
  ·intro q1 w Γx Ωx h
   refine OpS.mv rfl rfl rfl ?_
   exact du h
  have h16:=h
  refine gp rfl (gk rfl (ga rfl (nil (Run.slim [(6,.bool true),(5,u5),(4,u3)] ⟨rfl,rfl,rfl,trivial⟩ ?_))))
  refine Run.slim [(4,u3),(5,u5),(6,.bool true)] ⟨rfl,rfl,rfl,trivial⟩ ?_
  exact hj1 (true) _ _ ⟨rfl,(h16.facts (.atm (.s (.s .z)) (.atm .z .nil))).picks .nil⟩ hF
 have hG:=hF
 subst e8
 have hF:=hG
 obtain ⟨x2,e9,hF⟩:=Qh hF
 refine Qap hF (λ e10 hF=>?_) (λ e10 hF=>?_)
 ·have hG:=hF
  subst e10
  have hF:=hG
  refine Run.drawV (Ωs:=[]) [.k 14 u3,.k 15 (.int .i64 (y1.length:Int)),.k 16 (.bool ((y1.length:Int)==0)),.k 17 (.bool false),.k 18 u5,.k 19 (.int .i64 (y2.length:Int)),.k 20 (.bool ((y2.length:Int)==0)),.k 21 (.bool ((y2.length:Int)==0)),.k 22 (.bool true),.k 23 undef,.k 24 undef,.k 25 undef,.k 26 undef,.k 27 undef,.k 28 undef,.k 29 undef,.k 30 undef,.k 31 undef] [[],[0],[1],[2],[3],[4,3],[5,3],[3,6],[7],[8],[8],[8],[8],[8],[8],[8],[8],[8]] [] [0,1,2,3,4,5,6,7,8,9,10,11,12,13,14,15,16,17] Qi rfl rfl rfl h10 (.cons ?_ (.cons ?_ (.cons ?_ (.cons ?_ (.cons ?_ (.cons ?_ (.cons ?_ (.cons ?_ (.cons ?_ (.cons (dp λ _=>rfl) (.cons (dp λ _=>rfl) (.cons (dp λ _=>rfl) (.cons (dp λ _=>rfl) (.cons (dp λ _=>rfl) (.cons (dp λ _=>rfl) (.cons (dp λ _=>rfl) (.cons (dp λ _=>rfl) (.cons (dp λ _=>rfl) .nil)))))))))))))))))) (λ q1 w hq2 h=>?_)
  ·intro q1 w Γx Ωx h
   refine OpS.mv rfl rfl rfl ?_
   exact du h
  ·intro q1 w Γx Ωx h
   refine OpS.len h Tryz.underlying22 rfl rfl rfl (V.at (.s (.s .z))) ?_
   exact du h
  ·intro q1 w Γx Ωx h
   refine OpS.bin rfl rfl rfl rfl rfl ?_
   exact du h
  ·intro q1 w Γx Ωx h
   refine OpS.mv rfl rfl rfl ?_
   exact ⟨undef,(congrArg (λ z_=>some (Value.bool z_)) e7),trivial,h⟩
  ·intro q1 w Γx Ωx h
   refine OpS.mv rfl rfl rfl ?_
   exact du h
  ·intro q1 w Γx Ωx h
   refine OpS.len h Tryz.underlying22 rfl rfl rfl (V.at .z) ?_
   exact du h
  ·intro q1 w Γx Ωx h
   refine OpS.bin rfl rfl rfl rfl rfl ?_
   exact du h
  ·intro q1 w Γx Ωx h
   refine OpS.pick rfl rfl rfl rfl ?_
   exact du h
  ·intro q1 w Γx Ωx h
   refine OpS.mv rfl rfl rfl ?_
   exact ⟨undef,(congrArg (λ z_=>some (Value.bool z_)) e9),trivial,h⟩
  have h17:=h
  refine gp rfl (gk rfl (ga rfl (nil (Run.slim [(6,.bool true),(5,u5),(4,u3)] ⟨rfl,rfl,rfl,trivial⟩ ?_))))
  refine Run.slim [(4,u3),(5,u5),(6,.bool true)] ⟨rfl,rfl,rfl,trivial⟩ ?_
  exact hj1 (true) _ _ ⟨rfl,(h17.facts (.atm (.s (.s .z)) (.atm .z .nil))).picks .nil⟩ hF
 have hG:=hF
 subst e10
 have hF:=hG
 obtain ⟨x3,e11,hF⟩:=Qa hF
 obtain ⟨x4,e12,hF⟩:=Qa hF
 refine Run.drawV (Ωs:=[]) [.k 14 u3,.k 15 (.int .i64 (y1.length:Int)),.k 16 (.bool ((y1.length:Int)==0)),.k 17 (.bool false),.k 18 u5,.k 19 (.int .i64 (y2.length:Int)),.k 20 (.bool ((y2.length:Int)==0)),.k 21 (.bool ((y2.length:Int)==0)),.k 22 (.bool false),.k 23 u3,.k 24 u3,.k 25 (.int .i64 (y1.length:Int)),.k 26 (.int .i64 (IntKind.i64.wrap ((y1.length:Int)-1))),.f 27 (λ u_=>[(true,.ptr (Rep.int .i64) u_ x3)]),.k 28 (.int .i64 x3),.k 29 u5,.f 30 (λ u_=>[(true,.ptr (Rep.int .i64) u_ x4)]),.k 31 (.int .i64 x4)] [[],[0],[1],[2],[3],[4,3],[5,3],[3,6],[7],[8],[8],[10,8],[11,8],[9,12,8],[13,8],[8],[15,8],[16,8]] [] [0,1,2,3,4,5,6,7,8,9,10,11,12,13,14,15,16,17] Qi rfl rfl rfl h10 (.cons ?_ (.cons ?_ (.cons ?_ (.cons ?_ (.cons ?_ (.cons ?_ (.cons ?_ (.cons ?_ (.cons ?_ (.cons ?_ (.cons ?_ (.cons ?_ (.cons ?_ (.cons ?_ (.cons ?_ (.cons ?_ (.cons ?_ (.cons ?_ .nil)))))))))))))))))) (λ q1 w hq3 h=>?_)
 ·intro q1 w Γx Ωx h
  refine OpS.mv rfl rfl rfl ?_
  exact du h
 ·intro q1 w Γx Ωx h
  refine OpS.len h Tryz.underlying22 rfl rfl rfl (V.at (.s (.s .z))) ?_
  exact du h
 ·intro q1 w Γx Ωx h
  refine OpS.bin rfl rfl rfl rfl rfl ?_
  exact du h
 ·intro q1 w Γx Ωx h
  refine OpS.mv rfl rfl rfl ?_
  exact ⟨undef,(congrArg (λ z_=>some (Value.bool z_)) e7),trivial,h⟩
 ·intro q1 w Γx Ωx h
  refine OpS.mv rfl rfl rfl ?_
  exact du h
 ·intro q1 w Γx Ωx h
  refine OpS.len h Tryz.underlying22 rfl rfl rfl (V.at .z) ?_
  exact du h
 ·intro q1 w Γx Ωx h
  refine OpS.bin rfl rfl rfl rfl rfl ?_
  exact du h
 ·intro q1 w Γx Ωx h
  refine OpS.pick rfl rfl rfl rfl ?_
  exact du h
 ·intro q1 w Γx Ωx h
  refine OpS.mv rfl rfl rfl ?_
  exact ⟨undef,(congrArg (λ z_=>some (Value.bool z_)) e9),trivial,h⟩
 ·intro q1 w Γx Ωx h
  refine OpS.mv rfl rfl rfl ?_
  exact du h
 ·intro q1 w Γx Ωx h
  refine OpS.mv rfl rfl rfl ?_
  exact du h
 ·intro q1 w Γx Ωx h
  refine OpS.len h Tryz.underlying22 rfl rfl rfl (V.at (.s (.s .z))) ?_
  exact du h
 ·intro q1 w Γx Ωx h
  refine OpS.bin rfl rfl rfl rfl rfl ?_
  exact du h
 ·intro q1 w Γx Ωx h
  refine OpS.iptr h Tryz.underlying22 ty3 rfl rfl rfl rfl (V.at (.s (.s .z))) e11 (λ u h20=>?_)
  exact ⟨u,rfl,trivial,h20⟩
 ·intro q1 w Γx Ωx h
  refine OpS.loadi h ty3 rfl rfl rfl .z ?_
  exact du h
 ·intro q1 w Γx Ωx h
  refine OpS.mv rfl rfl rfl ?_
  exact du h
 ·intro q1 w Γx Ωx h
  refine OpS.iptr h Tryz.underlying22 ty3 rfl rfl rfl rfl (V.at .z) e12 (λ u h21=>?_)
  exact ⟨u,rfl,trivial,h21⟩
 ·intro q1 w Γx Ωx h
  refine OpS.loadi h ty3 rfl rfl rfl .z ?_
  exact du h
 have h22:=h
 refine gb rfl (gk rfl (ga rfl ?_))
 obtain ⟨x5,e13,hF⟩:=Qh hF
 refine RunL.nameb e13 ?_
 refine nil (Run.slim [(6,.bool x5),(5,u5),(4,u3)] ⟨rfl,rfl,rfl,trivial⟩ ?_)
 refine Run.slim [(4,u3),(5,u5),(6,.bool x5)] ⟨rfl,rfl,rfl,trivial⟩ ?_
 exact hj1 (x5) _ _ ⟨rfl,(h22.facts (.atm (.s (.s (.s (.s .z)))) (.atm (.s (.s .z)) .nil))).picks .nil⟩ hF
theorem Qmp {fuel:Nat} {a0:Sensor_} {y:Bool} (hF:Qfi fuel a0=some y) {w:World} {v0:Value} :
  Spec Tryz.prog 183 [v0].toArray w [(false,.val Sensor_.rep v0 a0)] [] (λ v Γr Ωr Ωo=>v=.bool y∧Γr=[]∧Ωr=[]∧Ωo=[]):=by
 refine Spec.of (L:=[(0,v0)]) Tryz.func183 rfl ⟨rfl,trivial⟩ rfl (λ e h=>?_)
 unfold Qfi at hF
 refine sr (op (OpS.boxF h rfl rfl rfl (V.at .z) (λ u1 w1 h1=>?_)))
 refine ga rfl (nil (Run.seq (sr (op (OpS.fbox (o3:=7) h1 .z PA.z Qnq rfl rfl rfl rfl ?_)))))
 refine op (OpS.loadB h1 .z PA.a (Get.fld Sensor_.f6) ty69 rfl rfl rfl (λ u2 h2=>?_))
 obtain ⟨y1,e1,hF⟩:=Qa hF
 refine op (OpS.callP h2 Tryz.func103 rfl rfl rfl rfl (vs:=[u2]) rfl (Qmn e1) (.cons (f:=false) (V.at .z) .nil) ?_)
 rintro _ w2 _ _ _ ⟨rfl,rfl,rfl,rfl⟩ h3
 have h4:=h3 rfl rfl
 simp only [ca,na] at h4
 refine op (OpS.not rfl rfl rfl ?_)
 refine gm rfl ?_
 refine RunL.join (σ:=Bool) (λ s_ L_ w_=>L_=[(1,u1),(32,.bool s_)]∧St e w_ [] [(false,.box 74 Sensor_.rep u1 a0)]) hF (λ s1 _ w3 hI hF=>?_) (λ j1 hj1 hF=>?_)
 ·obtain ⟨rfl,h5⟩:=hI
  refine Run.ite rfl hF (λ e2 hF=>?_) (λ e2 hF=>?_)
  ·refine sr (ga rfl (nil (Run.retP rfl (.tmp rfl .nil) ?_)))
   cases hF
   exact Post.mk' ⟨rfl,rfl,rfl,rfl⟩ (h5.picks .nil) .nil
  refine Run.skip (Run.seq (sr (op (OpS.fbox (o3:=14) h5 .z PA.z Qnm rfl rfl rfl rfl ?_))))
  refine op (OpS.fbox (o3:=15) h5 .z PA.a Qnz rfl rfl rfl rfl ?_)
  refine op (OpS.loadB h5 .z PA.a (Get.comp (Get.fld Sensor_.f7) (Get.fld Thresholds_.f1)) ty70 rfl rfl rfl (λ u3 h6=>?_))
  refine gm rfl (nil (Run.block (Run.slim [(1,u1),(35,u3),(36,.int .i64 0)] ⟨rfl,rfl,rfl,trivial⟩ ?_)))
  refine Run.loopP (σ:=Int) (λ s_ L_ w_=>L_=[(1,u1),(35,u3),(36,.int .i64 s_)]∧St e w_ [(false,.val (Rep.arr 6 (Rep.int .u8)) u3 a0.Limits.Raw)] [(false,.box 74 Sensor_.rep u1 a0)]) hF ⟨rfl,(h6.facts (.atm .z .nil)).picks (.cons .z .nil)⟩ (λ k1 hk1 s2 _ w4 hI hF=>?_)
  obtain ⟨rfl,h7⟩:=hI
  refine sr (gb rfl (nil (Run.seq ?_)))
  refine Run.ite rfl hF (λ e3 hF=>?_) (λ e3 hF=>?_)
  ·refine Run.skip (Run.seq (Run.block (sr (gm rfl ?_))))
   obtain ⟨x1,e4,hF⟩:=Qa hF
   refine op (OpS.elemi h7 Tryz.underlying70 ty5 rfl rfl rfl rfl (V.at .z) e4 ?_)
   refine ga rfl (ga rfl (nil (sr (op (OpS.fbox (o3:=14) h7 .z PA.z Qnm rfl rfl rfl rfl ?_)))))
   refine op (OpS.fbox (o3:=14) h7 .z PA.a Qnt rfl rfl rfl rfl ?_)
   refine op (OpS.loadBi h7 .z PA.a (Get.comp (Get.fld Sensor_.f7) (Get.fld Thresholds_.f0)) ty5 rfl rfl rfl ?_)
   refine gm rfl ?_
   obtain ⟨e5,hF⟩:=Qr hF
   refine op (OpS.shr rfl rfl rfl rfl e5 ?_)
   refine gb rfl (gb rfl (gm rfl ?_))
   refine RunL.join (σ:=Bool) (λ s_ L_ w_=>L_=[(1,u1),(35,u3),(36,.int .i64 s2),(50,.bool s_)]∧St e w_ [(false,.val (Rep.arr 6 (Rep.int .u8)) u3 a0.Limits.Raw)] [(false,.box 74 Sensor_.rep u1 a0)]) hF (λ s3 _ w5 hI hF=>?_) (λ j2 hj2 hF=>?_)
   ·obtain ⟨rfl,h8⟩:=hI
    refine Run.ite rfl hF (λ e6 hF=>?_) (λ e6 hF=>?_)
    ·refine sr (ga rfl (nil (Run.retP rfl (.tmp rfl .nil) ?_)))
     cases hF
     exact Post.mk' ⟨rfl,rfl,rfl,rfl⟩ (h8.picks .nil) .nil
    refine Run.skip (Run.endBlock (Run.reg (gb rfl (gm rfl (nil (Run.slim [(1,u1),(35,u3),(36,.int .i64 (IntKind.i64.wrap (s2+1)))] ⟨rfl,rfl,rfl,trivial⟩ ?_))))))
    exact hk1 ((IntKind.i64.wrap (s2+1))) _ _ ⟨rfl,(h8.facts (.atm .z .nil)).picks (.cons .z .nil)⟩ hF
   refine RunL.caseb hF (λ e7 hF=>?_) (λ e7 hF=>?_)
   ·refine gm rfl (gb rfl (gk rfl (nil (Run.slim [(1,u1),(35,u3),(36,.int .i64 s2),(50,.bool (x1 != 0))] ⟨rfl,rfl,rfl,rfl,trivial⟩ ?_))))
    exact hj2 (x1 != 0) _ _ ⟨rfl,(h7.facts (.atm .z .nil)).picks (.cons .z .nil)⟩ hF
   refine gp rfl (gp rfl (gk rfl (nil (Run.slim [(1,u1),(35,u3),(36,.int .i64 s2),(50,.bool false)] ⟨rfl,rfl,rfl,rfl,trivial⟩ ?_))))
   exact hj2 (false) _ _ ⟨rfl,(h7.facts (.atm .z .nil)).picks (.cons .z .nil)⟩ hF
  refine Run.exit rfl ?_
  refine sr (op (OpS.loadB h7 .z PA.z Get.id ty74 rfl rfl rfl (λ u4 h9=>?_)))
  obtain ⟨y2,e8,hF⟩:=Qa hF
  refine op (OpS.callP h9 Tryz.func235 rfl rfl rfl rfl (vs:=[u4]) rfl (Qmc e8) (.cons (f:=false) (V.at .z) .nil) ?_)
  rintro _ w6 _ _ _ ⟨rfl,rfl,rfl,rfl⟩ h10
  have h11:=h10 rfl rfl
  simp only [ca,na] at h11
  refine ga rfl (nil (Run.retP rfl (.tmp rfl .nil) ?_))
  cases hF
  exact Post.mk' ⟨rfl,rfl,rfl,rfl⟩ (h11.picks .nil) .nil
 refine RunL.caseb hF (λ e9 hF=>?_) (λ e9 hF=>?_)
 ·refine gp rfl (gp rfl (gp rfl (gp rfl (gk rfl (gm rfl (gp rfl (gp rfl (gp rfl (gk rfl (gm rfl (gp rfl (gp rfl (gp rfl (gp rfl (gp rfl (gp rfl ?_))))))))))))))))
  refine gp rfl (gp rfl (gp rfl (gp rfl (gp rfl (gk rfl (nil (Run.slim [(1,u1),(32,.bool true)] ⟨rfl,rfl,trivial⟩ ?_)))))))
  exact hj1 (true) _ _ ⟨rfl,(h4.facts .nil).picks (.cons .z .nil)⟩ hF
 refine op (OpS.fbox (o3:=14) h4 .z PA.z Qnm rfl rfl rfl rfl ?_)
 refine op (OpS.fbox (o3:=14) h4 .z PA.a Qnt rfl rfl rfl rfl ?_)
 refine op (OpS.loadBi h4 .z PA.a (Get.comp (Get.fld Sensor_.f7) (Get.fld Thresholds_.f0)) ty5 rfl rfl rfl ?_)
 refine gb rfl (gk rfl (gm rfl ?_))
 refine RunL.caseb hF (λ e10 hF=>?_) (λ e10 hF=>?_)
 ·refine gp rfl (gp rfl (gp rfl (gk rfl (gm rfl (gp rfl (gp rfl (gp rfl (gp rfl (gp rfl (gp rfl (gp rfl (gp rfl (gp rfl (gp rfl (gp rfl (gk rfl ?_))))))))))))))))
  refine nil (Run.slim [(1,u1),(32,.bool true)] ⟨rfl,rfl,trivial⟩ ?_)
  exact hj1 (true) _ _ ⟨rfl,(h4.facts .nil).picks (.cons .z .nil)⟩ hF
 refine op (OpS.fbox (o3:=23) h4 .z PA.z Qen rfl rfl rfl rfl ?_)
 refine op (OpS.loadBi h4 .z PA.a (Get.fld Sensor_.f10) ty49 rfl rfl rfl ?_)
 refine gb rfl (gk rfl (gm rfl ?_))
 refine RunL.caseb hF (λ e11 hF=>?_) (λ e11 hF=>?_)
 ·refine gp rfl (gp rfl (gp rfl (gp rfl (gp rfl (gp rfl (gp rfl (gp rfl (gp rfl (gp rfl (gp rfl (gk rfl (nil (Run.slim [(1,u1),(32,.bool true)] ⟨rfl,rfl,trivial⟩ ?_)))))))))))))
  exact hj1 (true) _ _ ⟨rfl,(h4.facts .nil).picks (.cons .z .nil)⟩ hF
 refine op (OpS.fbox (o3:=24) h4 .z PA.z Qhp rfl rfl rfl rfl ?_)
 refine op (OpS.loadBi h4 .z PA.a (Get.fld Sensor_.f11) ty49 rfl rfl rfl ?_)
 refine op (OpS.fbox (o3:=25) h4 .z PA.z Qhs rfl rfl rfl rfl ?_)
 refine op (OpS.loadBi h4 .z PA.a (Get.fld Sensor_.f12) ty49 rfl rfl rfl ?_)
 refine gb rfl (op (OpS.fbox (o3:=14) h4 .z PA.z Qnm rfl rfl rfl rfl ?_))
 refine op (OpS.fbox (o3:=14) h4 .z PA.a Qnt rfl rfl rfl rfl ?_)
 refine op (OpS.loadBi h4 .z PA.a (Get.comp (Get.fld Sensor_.f7) (Get.fld Thresholds_.f0)) ty5 rfl rfl rfl ?_)
 refine op (OpS.conv Tryz.underlying5 Tryz.underlying49 rfl rfl rfl ?_)
 refine gb rfl (gb rfl (gk rfl (nil (Run.slim [(1,u1),(32,.bool ((bAndNot .u16 (bOr .u16 a0.Assert a0.Deassert) (IntKind.u16.wrap a0.Limits.Mask)) != 0))] ⟨rfl,rfl,trivial⟩ ?_))))
 exact hj1 ((bAndNot .u16 (bOr .u16 a0.Assert a0.Deassert) (IntKind.u16.wrap a0.Limits.Mask)) != 0) _ _ ⟨rfl,(h4.facts .nil).picks (.cons .z .nil)⟩ hF
theorem Qcw {fuel:Nat} {a0:Sensor_} {y:Bool} (hF:Qbo fuel a0=some y) {w:World} {v0:Value} :
  Spec Tryz.prog 107 [v0].toArray w [(false,.val Sensor_.rep v0 a0)] [] (λ v Γr Ωr Ωo=>v=.bool y∧Γr=[]∧Ωr=[]∧Ωo=[]):=by
 refine Spec.of (L:=[(0,v0)]) Tryz.func107 rfl ⟨rfl,trivial⟩ rfl (λ e h=>?_)
 unfold Qbo at hF
 refine sr (op (OpS.boxF h rfl rfl rfl (V.at .z) (λ u1 w1 h1=>?_)))
 refine ga rfl (nil (Run.seq (sr (op (OpS.fbox (o3:=3) h1 .z PA.z fa74_3 rfl rfl rfl rfl ?_)))))
 refine op (OpS.loadB h1 .z PA.a (Get.fld Sensor_.f3) ty9 rfl rfl rfl (λ u2 h2=>?_))
 obtain ⟨y1,e1,hF⟩:=Qa hF
 refine op (OpS.callP h2 Tryz.func181 rfl rfl rfl rfl (vs:=[u2]) rfl (Qnc e1) (.cons (f:=false) (V.at .z) .nil) ?_)
 rintro _ w2 _ _ _ ⟨rfl,rfl,rfl,rfl⟩ h3
 have h4:=h3 rfl rfl
 simp only [ca,na] at h4
 refine op (OpS.not rfl rfl rfl ?_)
 refine gm rfl ?_
 refine RunL.join (σ:=Bool) (λ s_ L_ w_=>L_=[(1,u1),(21,.bool s_)]∧St e w_ [] [(false,.box 74 Sensor_.rep u1 a0)]) hF (λ s1 _ w3 hI hF=>?_) (λ j1 hj1 hF=>?_)
 ·obtain ⟨rfl,h5⟩:=hI
  refine Run.ite rfl hF (λ e2 hF=>?_) (λ e2 hF=>?_)
  ·refine sr (ga rfl (nil (Run.retP rfl (.tmp rfl .nil) ?_)))
   cases hF
   exact Post.mk' ⟨rfl,rfl,rfl,rfl⟩ (h5.picks .nil) .nil
  refine Run.skip (Run.seq (sr (op (OpS.fbox (o3:=6) h5 .z PA.z Qnn rfl rfl rfl rfl ?_))))
  refine op (OpS.loadBb h5 .z PA.a (Get.fld Sensor_.f5) ty4 rfl rfl rfl ?_)
  refine nil ?_
  refine Run.ite rfl hF (λ e3 hF=>?_) (λ e3 hF=>?_)
  ·refine sr (op (OpS.loadB h5 .z PA.z Get.id ty74 rfl rfl rfl (λ u3 h6=>?_)))
   obtain ⟨y2,e4,hF⟩:=Qa hF
   refine op (OpS.callP h6 Tryz.func182 rfl rfl rfl rfl (vs:=[u3]) rfl (Qlm e4) (.cons (f:=false) (V.at .z) .nil) ?_)
   rintro _ w4 _ _ _ ⟨rfl,rfl,rfl,rfl⟩ h7
   have h8:=h7 rfl rfl
   simp only [ca,na] at h8
   refine ga rfl (nil (Run.retP rfl (.tmp rfl .nil) ?_))
   cases hF
   exact Post.mk' ⟨rfl,rfl,rfl,rfl⟩ (h8.picks .nil) .nil
  refine Run.skip (sr (op (OpS.loadB h5 .z PA.z Get.id ty74 rfl rfl rfl (λ u4 h9=>?_))))
  obtain ⟨y3,e5,hF⟩:=Qa hF
  refine op (OpS.callP h9 Tryz.func183 rfl rfl rfl rfl (vs:=[u4]) rfl (Qmp e5) (.cons (f:=false) (V.at .z) .nil) ?_)
  rintro _ w5 _ _ _ ⟨rfl,rfl,rfl,rfl⟩ h10
  have h11:=h10 rfl rfl
  simp only [ca,na] at h11
  refine ga rfl (nil (Run.retP rfl (.tmp rfl .nil) ?_))
  cases hF
  exact Post.mk' ⟨rfl,rfl,rfl,rfl⟩ (h11.picks .nil) .nil
 refine RunL.caseb hF (λ e6 hF=>?_) (λ e6 hF=>?_)
 ·refine gp rfl (gp rfl (gp rfl (gp rfl (gp rfl (gp rfl (gp rfl (gp rfl (gp rfl (gp rfl (gp rfl (gp rfl (gp rfl (gk rfl (nil (Run.slim [(1,u1),(21,.bool true)] ⟨rfl,rfl,trivial⟩ ?_)))))))))))))))
  exact hj1 (true) _ _ ⟨rfl,(h4.facts .nil).picks (.cons .z .nil)⟩ hF
 refine op (OpS.fbox (o3:=27) h4 .z PA.z Qga rfl rfl rfl rfl ?_)
 refine op (OpS.loadBi h4 .z PA.a (Get.fld Sensor_.f14) ty3 rfl rfl rfl ?_)
 refine gb rfl (gm rfl ?_)
 refine RunL.caseb hF (λ e7 hF=>?_) (λ e7 hF=>?_)
 ·refine op (OpS.fbox (o3:=27) h4 .z PA.z Qga rfl rfl rfl rfl ?_)
  refine op (OpS.loadBi h4 .z PA.a (Get.fld Sensor_.f14) ty3 rfl rfl rfl ?_)
  refine gb rfl (gk rfl (gm rfl ?_))
  refine RunL.caseb hF (λ e8 hF=>?_) (λ e8 hF=>?_)
  ·refine op (OpS.fbox (o3:=27) h4 .z PA.z Qga rfl rfl rfl rfl ?_)
   refine op (OpS.loadBi h4 .z PA.a (Get.fld Sensor_.f14) ty3 rfl rfl rfl ?_)
   refine gb rfl (gk rfl (gk rfl (nil (Run.slim [(1,u1),(21,.bool (a0.Samples != 5))] ⟨rfl,rfl,trivial⟩ ?_))))
   exact hj1 (a0.Samples != 5) _ _ ⟨rfl,(h4.facts .nil).picks (.cons .z .nil)⟩ hF
  refine gp rfl (gp rfl (gp rfl (gk rfl (gk rfl (nil (Run.slim [(1,u1),(21,.bool false)] ⟨rfl,rfl,trivial⟩ ?_))))))
  exact hj1 (false) _ _ ⟨rfl,(h4.facts .nil).picks (.cons .z .nil)⟩ hF
 refine gp rfl (gp rfl (gp rfl (gk rfl (gm rfl (gp rfl (gp rfl (gp rfl (gk rfl (gk rfl (nil (Run.slim [(1,u1),(21,.bool false)] ⟨rfl,rfl,trivial⟩ ?_)))))))))))
 exact hj1 (false) _ _ ⟨rfl,(h4.facts .nil).picks (.cons .z .nil)⟩ hF
set_option maxRecDepth 20000 in
theorem Qjk {fuel:Nat} {a0:List Sensor_} {y:Int} (hF:Qed fuel a0=some y) {w:World} {v0:Value} :
  Spec Tryz.prog 90 [v0].toArray w [(false,.val (Rep.slice Sensor_.rep) v0 a0)] [] (λ v Γr Ωr Ωo=>v=.int .i64 y∧Γr=[]∧Ωr=[]∧Ωo=[]):=by
 refine Spec.of (L:=[(0,v0)]) Tryz.func90 rfl ⟨rfl,trivial⟩ rfl (λ e h=>?_)
 unfold Qed at hF
 refine sr (ga rfl (nil (Run.seq (sr (gm rfl (op (OpS.len h Tryz.underlying27 rfl rfl rfl (V.at .z) ?_)))))))
 refine gb rfl (nil ?_)
 refine Run.ite rfl hF (λ e1 hF=>?_) (λ e1 hF=>?_)
 ·refine sr (ga rfl (nil (Run.retP rfl (.tmp rfl .nil) ?_)))
  cases hF
  exact Post.mk' ⟨rfl,rfl,rfl,rfl⟩ (h.picks .nil) .nil
 refine Run.skip (Run.seq (sr (gm rfl (op (OpS.len h Tryz.underlying27 rfl rfl rfl (V.at .z) ?_)))))
 refine gm rfl (nil (Run.block (Run.slim [(0,v0),(8,v0),(9,.int .i64 (a0.length:Int)),(10,.int .i64 0)] ⟨rfl,rfl,rfl,rfl,trivial⟩ ?_)))
 refine Run.loopP (σ:=Int) (λ s_ L_ w_=>L_=[(0,v0),(8,v0),(9,.int .i64 (a0.length:Int)),(10,.int .i64 s_)]∧St e w_ [(false,.val (Rep.slice Sensor_.rep) v0 a0)] []) hF ⟨rfl,(h.facts (.atm .z .nil)).picks .nil⟩ (λ k1 hk1 s1 _ w1 hI hF=>?_)
 obtain ⟨rfl,h1⟩:=hI
 refine sr (gb rfl (nil (Run.seq ?_)))
 refine Run.ite rfl hF (λ e2 hF=>?_) (λ e2 hF=>?_)
 ·refine Run.skip (Run.seq (Run.block (sr (gm rfl ?_))))
  obtain ⟨x1,e3,hF⟩:=Qa hF
  refine op (OpS.iptr h1 Tryz.underlying27 ty74 rfl rfl rfl rfl (V.at .z) e3 (λ u1 h2=>?_))
  refine op (OpS.load h2 ty74 rfl rfl rfl .z (λ u2 h3=>?_))
  refine op (OpS.alloc h3 ti74 Sensor_.zr rfl rfl (λ u3 w2 h4=>?_))
  refine ga rfl ?_
  have h5:=(h4.pick .z).weak
  refine op (OpS.storeB (f':=false) h5 .z PA.z Put.id ty74 rfl rfl rfl (V.at .z) (.inr rfl) (λ w3 h6=>?_))
  refine nil (Run.seq ?_)
  refine Run.join (σ:=Bool) (λ s_ L_ w_=>L_=[(0,v0),(8,v0),(9,.int .i64 (a0.length:Int)),(10,.int .i64 s1),(32,.bool s_)]∧St e w_ [(false,.val (Rep.slice Sensor_.rep) v0 a0)] []) hF (λ s2 _ w4 hI hF=>?_) (λ j1 hj1 hF=>?_)
  ·obtain ⟨rfl,h7⟩:=hI
   refine Run.ite rfl hF (λ e4 hF=>?_) (λ e4 hF=>?_)
   ·refine sr (ga rfl (nil (Run.retP rfl (.tmp rfl .nil) ?_)))
    cases hF
    exact Post.mk' ⟨rfl,rfl,rfl,rfl⟩ (h7.picks .nil) .nil
   refine Run.skip (Run.endBlock (Run.reg (gb rfl (gm rfl (nil (Run.slim [(0,v0),(8,v0),(9,.int .i64 (a0.length:Int)),(10,.int .i64 (IntKind.i64.wrap (s1+1)))] ⟨rfl,rfl,rfl,rfl,trivial⟩ ?_))))))
   exact hk1 ((IntKind.i64.wrap (s1+1))) _ _ ⟨rfl,(h7.facts (.atm .z .nil)).picks .nil⟩ hF
  obtain ⟨y1,e5,hF⟩:=Qa hF
  obtain ⟨x2,e6,hF⟩:=Qh hF
  refine Qap hF (λ e7 hF=>?_) (λ e7 hF=>?_)
  ·have hG:=hF
   subst e7
   have hF:=hG
   refine Run.drawV (Ωs:=[]) [.fr 15 (λ u_=>[(false,.val Sensor_.rep u_ x1)]) [0],.k 16 (.bool y1),.k 17 (.bool (!y1)),.k 18 (.bool true),.k 19 undef,.k 20 undef,.k 21 undef,.k 22 undef,.k 23 undef,.k 24 undef,.k 25 undef,.k 26 undef,.k 27 undef,.k 28 undef,.k 29 undef] [[],[0],[1],[2],[3],[3],[3],[6],[6],[6],[6],[6],[6],[6],[6]] [[(false,.box 74 Sensor_.rep u3 x1)]] [0,1,2,3,4,5,6,7,8,9,10,11,12,13,14,15] Qi rfl rfl rfl h6 (.cons ?_ (.cons ?_ (.cons ?_ (.cons ?_ (.cons (dp λ _=>rfl) (.cons (dp λ _=>rfl) (.cons (dp λ _=>rfl) (.cons (dp λ _=>rfl) (.cons (dp λ _=>rfl) (.cons (dp λ _=>rfl) (.cons (dp λ _=>rfl) (.cons (dp λ _=>rfl) (.cons (dp λ _=>rfl) (.cons (dp λ _=>rfl) (.cons (dp λ _=>rfl) .nil))))))))))))))) (λ q1 w hq1 h=>?_)
   ·intro q1 w Γx Ωx h
    refine OpS.loadB h .z PA.z Get.id ty74 rfl rfl rfl (λ u h11=>?_)
    exact ⟨u,rfl,trivial,h11⟩
   ·intro q1 w Γx Ωx h
    refine OpS.callP h Tryz.func107 rfl rfl rfl rfl (vs:=[(q1 0)]) rfl (Qcw e5) (.cons (f:=false) (V.at .z) .nil) ?_
    rintro _ w6 _ _ _ ⟨rfl,rfl,rfl,rfl⟩ h12
    have h13:=h12 rfl rfl
    simp only [ca,na] at h13
    exact ⟨undef,rfl,trivial,h13⟩
   ·intro q1 w Γx Ωx h
    refine OpS.not rfl rfl rfl ?_
    exact du h
   ·intro q1 w Γx Ωx h
    refine OpS.mv rfl rfl rfl ?_
    exact ⟨undef,(congrArg (λ z_=>some (Value.bool z_)) e6),trivial,h⟩
   have h14:=h
   refine gp rfl (gp rfl (gk rfl (nil (Run.slim [(0,v0),(8,v0),(9,.int .i64 (a0.length:Int)),(10,.int .i64 s1),(32,.bool true)] ⟨rfl,rfl,rfl,rfl,rfl,trivial⟩ ?_))))
   exact hj1 (true) _ _ ⟨rfl,(h14.facts (.atm (.s (.s (.s .z))) .nil)).picks .nil⟩ hF
  have hG:=hF
  subst e7
  have hF:=hG
  obtain ⟨x3,e8,hF⟩:=Qh hF
  refine Qap hF (λ e9 hF=>?_) (λ e9 hF=>?_)
  ·have hG:=hF
   subst e9
   have hF:=hG
   obtain ⟨x4,e10,hF⟩:=Qa hF
   refine Run.drawV (Ωs:=[]) [.fr 15 (λ u_=>[(false,.val Sensor_.rep u_ x1)]) [0],.k 16 (.bool y1),.k 17 (.bool (!y1)),.k 18 (.bool false),.k 19 (.int .i64 s1),.k 20 (.bool (decide (s1>0))),.k 21 (.bool true),.kr 22 (padd u3 0) [0],.kr 23 (.int .u8 x1.Number) [0],.k 24 v0,.k 25 (.int .i64 s1),.k 26 (.int .i64 (IntKind.i64.wrap (s1-1))),.f 27 (λ u_=>[(false,.ptr Sensor_.rep u_ x4)]),.f 28 (λ u_=>[(false,.ptr (Rep.int .u8) u_ x4.Number)]),.k 29 (.int .u8 x4.Number)] [[],[0],[1],[2],[3],[4,3],[5,3],[6],[7,6],[6],[6],[10,6],[9,11,6],[12,6],[13,6]] [[(false,.box 74 Sensor_.rep u3 x1)]] [0,1,2,3,4,5,6,7,8,9,10,11,12,13,14,15] Qi rfl rfl rfl h6 (.cons ?_ (.cons ?_ (.cons ?_ (.cons ?_ (.cons ?_ (.cons ?_ (.cons ?_ (.cons ?_ (.cons ?_ (.cons ?_ (.cons ?_ (.cons ?_ (.cons ?_ (.cons ?_ (.cons ?_ .nil))))))))))))))) (λ q1 w hq2 h=>?_)
   ·intro q1 w Γx Ωx h
    refine OpS.loadB h .z PA.z Get.id ty74 rfl rfl rfl (λ u h17=>?_)
    exact ⟨u,rfl,trivial,h17⟩
   ·intro q1 w Γx Ωx h
    refine OpS.callP h Tryz.func107 rfl rfl rfl rfl (vs:=[(q1 0)]) rfl (Qcw e5) (.cons (f:=false) (V.at .z) .nil) ?_
    rintro _ w7 _ _ _ ⟨rfl,rfl,rfl,rfl⟩ h18
    have h19:=h18 rfl rfl
    simp only [ca,na] at h19
    exact ⟨undef,rfl,trivial,h19⟩
   ·intro q1 w Γx Ωx h
    refine OpS.not rfl rfl rfl ?_
    exact du h
   ·intro q1 w Γx Ωx h
    refine OpS.mv rfl rfl rfl ?_
    exact ⟨undef,(congrArg (λ z_=>some (Value.bool z_)) e6),trivial,h⟩
   ·intro q1 w Γx Ωx h
    refine OpS.mv rfl rfl rfl ?_
    exact du h
   ·intro q1 w Γx Ωx h
    refine OpS.bin rfl rfl rfl rfl rfl ?_
    exact du h
   ·intro q1 w Γx Ωx h
    refine OpS.mv rfl rfl rfl ?_
    exact ⟨undef,(congrArg (λ z_=>some (Value.bool z_)) e8),trivial,h⟩
   ·intro q1 w Γx Ωx h
    refine OpS.fbox (o3:=0) h .z PA.z Qnr rfl rfl rfl rfl ?_
    exact du h
   ·intro q1 w Γx Ωx h
    refine OpS.loadBi h .z PA.a (Get.fld Sensor_.f0) ty5 rfl rfl rfl ?_
    exact du h
   ·intro q1 w Γx Ωx h
    refine OpS.mv rfl rfl rfl ?_
    exact du h
   ·intro q1 w Γx Ωx h
    refine OpS.mv rfl rfl rfl ?_
    exact du h
   ·intro q1 w Γx Ωx h
    refine OpS.bin rfl rfl rfl rfl rfl ?_
    exact du h
   ·intro q1 w Γx Ωx h
    refine OpS.iptr h Tryz.underlying27 ty74 rfl rfl rfl rfl (V.at (.s (.s .z))) e10 (λ u h20=>?_)
    exact ⟨u,rfl,trivial,h20⟩
   ·intro q1 w Γx Ωx h
    refine OpS.fptr h Qnr Sensor_.f0 rfl rfl rfl .z (λ u h21=>?_)
    exact ⟨u,rfl,trivial,h21⟩
   ·intro q1 w Γx Ωx h
    refine OpS.loadi h ty5 rfl rfl rfl .z ?_
    exact du h
   have h22:=h
   refine gb rfl (gk rfl (gk rfl (nil (Run.slim [(0,v0),(8,v0),(9,.int .i64 (a0.length:Int)),(10,.int .i64 s1),(32,.bool (decide (x1.Number≤x4.Number)))] ⟨rfl,rfl,rfl,rfl,rfl,trivial⟩ ?_))))
   exact hj1 (decide (x1.Number≤x4.Number)) _ _ ⟨rfl,(h22.facts (.atm (.s (.s (.s (.s (.s .z))))) .nil)).picks .nil⟩ hF
  have hG:=hF
  subst e9
  have hF:=hG
  refine Run.drawV (Ωs:=[]) [.fr 15 (λ u_=>[(false,.val Sensor_.rep u_ x1)]) [0],.k 16 (.bool y1),.k 17 (.bool (!y1)),.k 18 (.bool false),.k 19 (.int .i64 s1),.k 20 (.bool (decide (s1>0))),.k 21 (.bool false),.k 22 undef,.k 23 undef,.k 24 undef,.k 25 undef,.k 26 undef,.k 27 undef,.k 28 undef,.k 29 undef] [[],[0],[1],[2],[3],[4,3],[5,3],[6],[6],[6],[6],[6],[6],[6],[6]] [[(false,.box 74 Sensor_.rep u3 x1)]] [0,1,2,3,4,5,6,7,8,9,10,11,12,13,14,15] Qi rfl rfl rfl h6 (.cons ?_ (.cons ?_ (.cons ?_ (.cons ?_ (.cons ?_ (.cons ?_ (.cons ?_ (.cons (dp λ _=>rfl) (.cons (dp λ _=>rfl) (.cons (dp λ _=>rfl) (.cons (dp λ _=>rfl) (.cons (dp λ _=>rfl) (.cons (dp λ _=>rfl) (.cons (dp λ _=>rfl) (.cons (dp λ _=>rfl) .nil))))))))))))))) (λ q1 w hq3 h=>?_)
  ·intro q1 w Γx Ωx h
   refine OpS.loadB h .z PA.z Get.id ty74 rfl rfl rfl (λ u h23=>?_)
   exact ⟨u,rfl,trivial,h23⟩
  ·intro q1 w Γx Ωx h
   refine OpS.callP h Tryz.func107 rfl rfl rfl rfl (vs:=[(q1 0)]) rfl (Qcw e5) (.cons (f:=false) (V.at .z) .nil) ?_
   rintro _ w8 _ _ _ ⟨rfl,rfl,rfl,rfl⟩ h24
   have h25:=h24 rfl rfl
   simp only [ca,na] at h25
   exact ⟨undef,rfl,trivial,h25⟩
  ·intro q1 w Γx Ωx h
   refine OpS.not rfl rfl rfl ?_
   exact du h
  ·intro q1 w Γx Ωx h
   refine OpS.mv rfl rfl rfl ?_
   exact ⟨undef,(congrArg (λ z_=>some (Value.bool z_)) e6),trivial,h⟩
  ·intro q1 w Γx Ωx h
   refine OpS.mv rfl rfl rfl ?_
   exact du h
  ·intro q1 w Γx Ωx h
   refine OpS.bin rfl rfl rfl rfl rfl ?_
   exact du h
  ·intro q1 w Γx Ωx h
   refine OpS.mv rfl rfl rfl ?_
   exact ⟨undef,(congrArg (λ z_=>some (Value.bool z_)) e8),trivial,h⟩
  have h26:=h
  refine gp rfl (gk rfl (gk rfl (nil (Run.slim [(0,v0),(8,v0),(9,.int .i64 (a0.length:Int)),(10,.int .i64 s1),(32,.bool false)] ⟨rfl,rfl,rfl,rfl,rfl,trivial⟩ ?_))))
  exact hj1 (false) _ _ ⟨rfl,(h26.facts (.atm (.s (.s (.s .z))) .nil)).picks .nil⟩ hF
 refine Run.exit rfl ?_
 refine sr (ga rfl (nil (Run.retP rfl (.tmp rfl .nil) ?_)))
 cases hF
 exact Post.mk' ⟨rfl,rfl,rfl,rfl⟩ (h1.picks .nil) .nil
theorem Qkv {fuel:Nat} {a0:Association_} {a1:Entity_} {y:Bool} (hF:Qgh fuel a0 a1=some y) {w:World} {v0 v1:Value} :
  Spec Tryz.prog 243 [v0,v1].toArray w [(false,.val Association_.rep v0 a0),(false,.ptr Entity_.rep v1 a1)] [] (λ v Γr Ωr Ωo=>v=.bool y∧Γr=[]∧Ωr=[]∧Ωo=[]):=by
 refine Spec.of (L:=[(0,v0),(1,v1)]) Tryz.func243 rfl ⟨rfl,rfl,trivial⟩ rfl (λ e h=>?_)
 unfold Qgh at hF
 refine sr (op (OpS.boxF h rfl rfl rfl (V.at .z) (λ u1 w1 h1=>?_)))
 refine ga rfl (nil (sr (op (OpS.fbox (o3:=2) h1 .z PA.z Qod rfl rfl rfl rfl ?_))))
 refine op (OpS.loadB h1 .z PA.a (Get.fld Association_.f1) ty66 rfl rfl rfl (λ u2 h2=>?_))
 refine op (OpS.load h2 ty66 rfl rfl rfl (.s (.s .z)) (λ u3 h3=>?_))
 refine op (OpS.eqA h3 eqt66 rfl gdf66 rfl rfl rfl rfl rfl (V.at (.s .z)) (V.at .z) ?_)
 refine ga rfl ?_
 obtain ⟨x1,e1,hF⟩:=Qh hF
 refine RunL.nameb e1 ?_
 refine nil (Run.retP rfl (.tmp rfl .nil) ?_)
 cases hF
 exact Post.mk' ⟨rfl,rfl,rfl,rfl⟩ (h3.picks .nil) .nil
theorem Qbm {fuel:Nat} {a0:List Association_} {a1_0:Entity_} {y:Int} (hF:Qab fuel a0 a1_0=some y) {w:World} {v0 v1_0:Value} :
  Spec Tryz.prog 242 [v0,.func (.func 243) #[] #[v1_0]].toArray w [(false,.val (Rep.slice Association_.rep) v0 a0),(false,.ptr Entity_.rep v1_0 a1_0)] [] (λ v Γr Ωr Ωo=>v=.int .i64 y∧Γr=[]∧Ωr=[]∧Ωo=[]):=by
 refine Spec.of (L:=[(0,v0),(1,.func (.func 243) #[] #[v1_0])]) Tryz.func242 rfl ⟨rfl,rfl,trivial⟩ rfl (λ e h=>?_)
 unfold Qab at hF
 refine sr (ga rfl (nil (Run.seq (sr (gm rfl (op (OpS.len h Tryz.underlying76 rfl rfl rfl (V.at .z) ?_)))))))
 refine gm rfl (nil (Run.block (Run.slim [(0,v0),(1,.func (.func 243) #[] #[v1_0]),(7,.int .i64 (a0.length:Int)),(8,.int .i64 0)] ⟨rfl,rfl,rfl,rfl,trivial⟩ ?_)))
 refine Run.loopP (σ:=Int) (λ s_ L_ w_=>L_=[(0,v0),(1,.func (.func 243) #[] #[v1_0]),(7,.int .i64 (a0.length:Int)),(8,.int .i64 s_)]∧St e w_ [(false,.val (Rep.slice Association_.rep) v0 a0),(false,.ptr Entity_.rep v1_0 a1_0)] []) hF ⟨rfl,(h.facts (.atm .z (.atm (.s .z) .nil))).picks .nil⟩ (λ k1 hk1 s1 _ w1 hI hF=>?_)
 obtain ⟨rfl,h1⟩:=hI
 refine sr (gb rfl (nil (Run.seq ?_)))
 refine Run.ite rfl hF (λ e1 hF=>?_) (λ e1 hF=>?_)
 ·refine Run.skip (Run.seq (Run.block (sr (gm rfl (ga rfl (nil (sr (gm rfl (gm rfl (gm rfl ?_))))))))))
  obtain ⟨x1,e2,hF⟩:=Qa hF
  refine op (OpS.iptr h1 Tryz.underlying76 ty83 rfl rfl rfl rfl (V.at .z) e2 (λ u1 h2=>?_))
  refine op (OpS.load h2 ty83 rfl rfl rfl .z (λ u2 h3=>?_))
  obtain ⟨y1,e3,hF⟩:=Qa hF
  refine op (OpS.callPF (fl:=[]) (cl:=[v1_0]) h3 Tryz.func243 rfl rfl rfl rfl rfl (vs:=[u2]) rfl (Qkv e3) (.cons (f:=false) (V.at .z) (.ptr (.s (.s (.s .z))) .nil)) ?_)
  rintro _ w2 _ _ _ ⟨rfl,rfl,rfl,rfl⟩ h4
  have h5:=h4 rfl rfl
  simp only [ca,na] at h5
  refine nil ?_
  refine Run.ite rfl hF (λ e4 hF=>?_) (λ e4 hF=>?_)
  ·refine sr (gm rfl (ga rfl (nil (Run.retP rfl (.tmp rfl .nil) ?_))))
   cases hF
   exact Post.mk' ⟨rfl,rfl,rfl,rfl⟩ (h5.picks .nil) .nil
  refine Run.skip (Run.endBlock (Run.reg (gb rfl (gm rfl (nil (Run.slim [(0,v0),(1,.func (.func 243) #[] #[v1_0]),(7,.int .i64 (a0.length:Int)),(8,.int .i64 (IntKind.i64.wrap (s1+1)))] ⟨rfl,rfl,rfl,rfl,trivial⟩ ?_))))))
  exact hk1 ((IntKind.i64.wrap (s1+1))) _ _ ⟨rfl,(h5.facts (.atm (.s (.s .z)) (.atm (.s (.s (.s .z))) .nil))).picks .nil⟩ hF
 refine Run.exit rfl ?_
 refine sr (ga rfl (nil (Run.retP rfl (.tmp rfl .nil) ?_)))
 cases hF
 exact Post.mk' ⟨rfl,rfl,rfl,rfl⟩ (h1.picks .nil) .nil
theorem Qml {fuel:Nat} {a0:List Association_} {a1:Entity_} {y:Entity_×Bool} (hF:Qih fuel a0 a1=some y) {w:World} {v0 v1:Value} :
  Spec Tryz.prog 212 [v0,v1].toArray w [(false,.val (Rep.slice Association_.rep) v0 a0),(false,.val Entity_.rep v1 a1)] [] (λ v Γr Ωr Ωo=>∃ u0:Value,v=.tuple #[u0,.bool y.2]∧Γr=[(false,.val Entity_.rep u0 y.1)]∧Ωr=[]∧Ωo=[]):=by
 refine Spec.of (L:=[(0,v0),(1,v1)]) Tryz.func212 rfl ⟨rfl,rfl,trivial⟩ rfl (λ e h=>?_)
 unfold Qih at hF
 refine sr (op (OpS.boxF h rfl rfl rfl (V.at (.s .z)) (λ u1 w1 h1=>?_)))
 refine op (OpS.alloc h1 ti66 Entity_.zr rfl rfl (λ u2 w2 h2=>?_))
 refine ga rfl (nil (sr (gm rfl (op (OpS.mkf (fl:=[]) (cl:=[u1]) rfl rfl rfl rfl ?_)))))
 have h3:=(h2.pick (.s .z)).freezeBox
 obtain ⟨y1,e1,hF⟩:=Qa hF
 refine op (OpS.callP h3 Tryz.func242 rfl rfl rfl rfl (vs:=[v0,.func (.func 243) #[] #[u1]]) rfl (Qbm e1) (.cons (f:=false) (V.at (.s .z)) (.ptr .z .nil)) ?_)
 rintro _ w3 _ _ _ ⟨rfl,rfl,rfl,rfl⟩ h4
 have h5:=h4 rfl rfl
 simp only [ca,na] at h5
 refine ga rfl (nil (Run.seq (sr (gm rfl (gb rfl (nil ?_))))))
 refine Run.ite rfl hF (λ e2 hF=>?_) (λ e2 hF=>?_)
 ·refine sr (op (OpS.build (f:=true) (x':=Entity_.z) h5 pl66 ti66 Entity_.zr rfl rfl rfl .nil (λ u3 h6=>?_)))
  refine op (OpS.storeB (f':=true) h6 .z PA.z Put.id ty66 rfl rfl rfl (V.at .z) (.inl rfl) (λ w4 h7=>?_))
  refine ga rfl (nil ?_)
  obtain ⟨u4,hu1,h8⟩:=Qaq h7 .z ty66
  refine Run.retP rfl (.cell rfl hu1 (.tmp rfl .nil)) ?_
  cases hF
  exact Post.mk' ⟨u4,rfl,rfl,rfl,rfl⟩ (h8.picks .nil) (.val (V.weak (V.at .z)) .nil)
 refine Run.skip (sr (gm rfl (gm rfl ?_)))
 obtain ⟨x1,e3,hF⟩:=Qa hF
 refine op (OpS.iptr h5 Tryz.underlying76 ty83 rfl rfl rfl rfl (V.at (.s .z)) e3 (λ u5 h9=>?_))
 refine op (OpS.fptr h9 fa83_0 Association_.f0 rfl rfl rfl .z (λ u6 h10=>?_))
 refine op (OpS.load h10 ty66 rfl rfl rfl .z (λ u7 h11=>?_))
 have h12:=(h11.pick .z).weak
 refine op (OpS.storeB (f':=false) h12 .z PA.z Put.id ty66 rfl rfl rfl (V.at .z) (.inr rfl) (λ w5 h13=>?_))
 refine ga rfl (nil ?_)
 obtain ⟨u8,hu2,h14⟩:=Qaq h13 .z ty66
 refine Run.retP rfl (.cell rfl hu2 (.tmp rfl .nil)) ?_
 cases hF
 exact Post.mk' ⟨u8,rfl,rfl,rfl,rfl⟩ (h14.picks .nil) (.val (V.at .z) .nil)
set_option maxRecDepth 20000 in
theorem Qfr {fuel:Nat} {a0:List Entity_} {a1:Entity_} {y:Int} (hF:Qar fuel a0 a1=some y) {w:World} {v0 v1:Value} :
  Spec Tryz.prog 211 [v0,v1].toArray w [(false,.val (Rep.slice Entity_.rep) v0 a0),(false,.val Entity_.rep v1 a1)] [] (λ v Γr Ωr Ωo=>v=.int .i64 y∧Γr=[]∧Ωr=[]∧Ωo=[]):=by
 refine Spec.of (L:=[(0,v0),(1,v1)]) Tryz.func211 rfl ⟨rfl,rfl,trivial⟩ rfl (λ e h=>?_)
 unfold Qar at hF
 refine sr (op (OpS.boxF h rfl rfl rfl (V.at (.s .z)) (λ u1 w1 h1=>?_)))
 refine ga rfl (nil (Run.seq (sr (gm rfl (op (OpS.len h1 Tryz.underlying43 rfl rfl rfl (V.at .z) ?_))))))
 refine gm rfl (nil (Run.block (Run.slim [(0,v0),(3,u1),(7,.int .i64 (a0.length:Int)),(8,.int .i64 0)] ⟨rfl,rfl,rfl,rfl,trivial⟩ ?_)))
 refine Run.loopP (σ:=Int) (λ s_ L_ w_=>L_=[(0,v0),(3,u1),(7,.int .i64 (a0.length:Int)),(8,.int .i64 s_)]∧St e w_ [(false,.val (Rep.slice Entity_.rep) v0 a0)] [(false,.box 66 Entity_.rep u1 a1)]) hF ⟨rfl,(h1.facts (.atm .z .nil)).picks (.cons .z .nil)⟩ (λ k1 hk1 s1 _ w2 hI hF=>?_)
 obtain ⟨rfl,h2⟩:=hI
 refine sr (gb rfl (nil (Run.seq ?_)))
 refine Run.ite rfl hF (λ e1 hF=>?_) (λ e1 hF=>?_)
 ·refine Run.skip (Run.seq (Run.block (sr (gm rfl (ga rfl (nil (Run.seq ?_)))))))
  obtain ⟨x1,e2,hF⟩:=Qa hF
  refine Run.drawV (Ωs:=[]) [.fr 11 (λ u_=>[(false,.val Entity_.rep u_ a1)]) [0],.k 12 v0,.k 13 (.int .i64 s1),.f 14 (λ u_=>[(false,.ptr Entity_.rep u_ x1)]),.f 15 (λ u_=>[(false,.val Entity_.rep u_ x1)])] [[],[],[],[1,2],[3]] [[(false,.box 66 Entity_.rep u1 a1)]] [0,1,2,3,4,5] Qi rfl rfl rfl h2 (.cons ?_ (.cons ?_ (.cons ?_ (.cons ?_ (.cons ?_ .nil))))) (λ q1 w hq1 h=>?_)
  ·intro q1 w Γx Ωx h
   refine OpS.loadB h .z PA.z Get.id ty66 rfl rfl rfl (λ u h6=>?_)
   exact ⟨u,rfl,trivial,h6⟩
  ·intro q1 w Γx Ωx h
   refine OpS.mv rfl rfl rfl ?_
   exact du h
  ·intro q1 w Γx Ωx h
   refine OpS.mv rfl rfl rfl ?_
   exact du h
  ·intro q1 w Γx Ωx h
   refine OpS.iptr h Tryz.underlying43 ty66 rfl rfl rfl rfl (V.at .z) e2 (λ u h7=>?_)
   exact ⟨u,rfl,trivial,h7⟩
  ·intro q1 w Γx Ωx h
   refine OpS.load h ty66 rfl rfl rfl .z (λ u h8=>?_)
   exact ⟨u,rfl,trivial,h8⟩
  have h9:=h
  refine op (OpS.eqA h9 eqt66 rfl gdf66 rfl rfl rfl rfl rfl (V.at .z) (V.at (.s (.s .z))) ?_)
  refine nil ?_
  refine Run.ite rfl hF (λ e3 hF=>?_) (λ e3 hF=>?_)
  ·refine sr (gm rfl (ga rfl (nil (Run.retP rfl (.tmp rfl .nil) ?_))))
   cases hF
   exact Post.mk' ⟨rfl,rfl,rfl,rfl⟩ (h9.picks .nil) .nil
  refine Run.skip (Run.endBlock (Run.reg (gb rfl (gm rfl (nil (Run.slim [(0,v0),(3,u1),(7,.int .i64 (a0.length:Int)),(8,.int .i64 (IntKind.i64.wrap (s1+1)))] ⟨rfl,rfl,rfl,rfl,trivial⟩ ?_))))))
  exact hk1 ((IntKind.i64.wrap (s1+1))) _ _ ⟨rfl,(h9.facts (.atm (.s (.s (.s .z))) .nil)).picks (.cons .z .nil)⟩ hF
 refine Run.exit rfl ?_
 refine sr (ga rfl (nil (Run.retP rfl (.tmp rfl .nil) ?_)))
 cases hF
 exact Post.mk' ⟨rfl,rfl,rfl,rfl⟩ (h2.picks .nil) .nil
theorem Qav {fuel:Nat} {a0:List Entity_} {a1:Entity_} {y:Bool} (hF:Qu fuel a0 a1=some y) {w:World} {v0 v1:Value} :
  Spec Tryz.prog 160 [v0,v1].toArray w [(false,.val (Rep.slice Entity_.rep) v0 a0),(false,.val Entity_.rep v1 a1)] [] (λ v Γr Ωr Ωo=>v=.bool y∧Γr=[]∧Ωr=[]∧Ωo=[]):=by
 refine Spec.of (L:=[(0,v0),(1,v1)]) Tryz.func160 rfl ⟨rfl,rfl,trivial⟩ rfl (λ e h=>?_)
 unfold Qu at hF
 refine sr (op (OpS.boxF h rfl rfl rfl (V.at (.s .z)) (λ u1 w1 h1=>?_)))
 refine ga rfl (nil (sr (gm rfl (op (OpS.loadB h1 .z PA.z Get.id ty66 rfl rfl rfl (λ u2 h2=>?_))))))
 obtain ⟨y1,e1,hF⟩:=Qa hF
 refine op (OpS.callP h2 Tryz.func211 rfl rfl rfl rfl (vs:=[v0,u2]) rfl (Qfr e1) (.cons (f:=false) (V.at (.s .z)) (.cons (f:=false) (V.at .z) .nil)) ?_)
 rintro _ w2 _ _ _ ⟨rfl,rfl,rfl,rfl⟩ h3
 have h4:=h3 rfl rfl
 simp only [ca,na] at h4
 refine gb rfl (ga rfl ?_)
 obtain ⟨x1,e2,hF⟩:=Qh hF
 refine RunL.nameb e2 ?_
 refine nil (Run.retP rfl (.tmp rfl .nil) ?_)
 cases hF
 exact Post.mk' ⟨rfl,rfl,rfl,rfl⟩ (h4.picks .nil) .nil
set_option maxRecDepth 20000 in
theorem Qjj {fuel:Nat} {a0:List Association_} {a1:Entity_} {y:(List Entity_)} (hF:Qfk fuel a0 a1=some y) {w:World} {v0 v1:Value} :
  Spec Tryz.prog 161 [v0,v1].toArray w [(false,.val (Rep.slice Association_.rep) v0 a0),(false,.val Entity_.rep v1 a1)] [] (λ v Γr Ωr Ωo=>∃ u0:Value,v=u0∧Γr=[]∧Ωr=[(true,(.slice 66 Entity_.rep u0 y))]∧Ωo=[]):=by
 refine Spec.of (L:=[(0,v0),(1,v1)]) Tryz.func161 rfl ⟨rfl,rfl,trivial⟩ rfl (λ e h=>?_)
 unfold Qfk at hF
 refine sr (op (OpS.boxF h rfl rfl rfl (V.at (.s .z)) (λ u1 w1 h1=>?_)))
 refine ga rfl (nil (sr (ga rfl (nil (Run.block ?_)))))
 have h2:=St.nil 66 Entity_.rep h1
 refine Run.slim [(0,v0),(3,u1),(5,(.slice none 0 0))] ⟨rfl,rfl,rfl,trivial⟩ ?_
 refine Run.loopP (σ:=(Entity_×(List Entity_))) (λ s_ L_ w_=>∃ u0_:Value,L_=[(0,v0),(3,u1),(5,u0_)]∧St e w_ [(false,.val (Rep.slice Association_.rep) v0 a0)] [(false,.box 66 Entity_.rep u1 s_.1),(true,.slice 66 Entity_.rep u0_ s_.2)]) hF ⟨(.slice none 0 0),rfl,(h2.facts (.atm .z .nil)).picks (.cons (.s .z) (.cons .z .nil))⟩ (λ k1 hk1 s1 _ w2 hI hF=>?_)
 obtain ⟨u2,rfl,h3⟩:=hI
 refine Run.block (sr (gm rfl (op (OpS.loadB h3 .z PA.z Get.id ty66 rfl rfl rfl (λ u3 h4=>?_)))))
 obtain ⟨y1,e1,hF⟩:=Qa hF
 have h5:=h4.front .nil
 refine op (OpS.callO h5 Tryz.func212 rfl rfl rfl rfl (vs:=[v0,u3]) rfl (Qml e1) rfl (.cons (f:=false) (V.at (.s .z)) (.cons (f:=false) (V.at .z) .nil)) ?_)
 rintro _ w3 _ _ _ ⟨u4,rfl,rfl,rfl,rfl⟩ h6
 have h7:=h6
 simp only [ca,na] at h7
 refine gm rfl (op (OpS.ext rfl rfl rfl rfl ?_))
 refine op (OpS.ext rfl rfl rfl rfl ?_)
 refine op (OpS.alloc h7 ti66 Entity_.zr rfl rfl (λ u5 w4 h8=>?_))
 have h9:=(h8.pick .z).weak
 refine op (OpS.storeB (f':=false) h9 .z PA.z Put.id ty66 rfl rfl rfl (V.at .z) (.inr rfl) (λ w5 h10=>?_))
 refine ga rfl (nil (Run.seq (sr (gm rfl (op (OpS.not rfl rfl rfl ?_))))))
 refine gm rfl ?_
 refine RunL.join (σ:=Bool) (λ s_ L_ w_=>L_=[(0,v0),(3,u1),(5,u2),(6,u5),(20,.bool s_)]∧St e w_ [(false,.val (Rep.slice Association_.rep) v0 a0)] [(false,.box 66 Entity_.rep u1 s1.1),(false,.box 66 Entity_.rep u5 y1.1),(true,.slice 66 Entity_.rep u2 s1.2)]) hF (λ s2 _ w6 hI hF=>?_) (λ j1 hj1 hF=>?_)
 ·obtain ⟨rfl,h11⟩:=hI
  refine Run.ite rfl hF (λ e2 hF=>?_) (λ e2 hF=>?_)
  ·refine sr (gm rfl (ga rfl (nil (Run.retP rfl (.tmp rfl .nil) ?_))))
   cases hF
   exact Post.mk' ⟨u2,rfl,rfl,rfl,rfl⟩ (h11.picks (.cons (.s (.s .z)) .nil)) .nil
  refine Run.skip (Run.slim [(0,v0),(3,u1),(5,u2),(6,u5)] ⟨rfl,rfl,rfl,rfl,trivial⟩ ?_)
  have h12:=h11.picks (.cons (.s .z) (.cons (.s .z) (.cons .z .nil)))
  obtain ⟨x1,e3,hF⟩:=Qa hF
  refine Run.slim [(5,u2),(0,v0),(3,u1),(6,u5)] ⟨rfl,rfl,rfl,rfl,trivial⟩ ?_
  refine Run.drawVE (L:=[(0,v0),(3,u1),(6,u5)]) (Ωs:=[(false,.box 66 Entity_.rep u1 s1.1)]) [(5,u2)] [true,false,false,false,false,false] [.k 22 u2,.fr 23 (λ u_=>[(false,.val Entity_.rep u_ y1.1)]) [0],.f 24 (λ u_=>[(false,.val (Rep.slice Entity_.rep) u_ ([y1.1]))]),⟨some 25,none,λ u_=>[],λ ds_ u_=>[(true,.slice 66 Entity_.rep u_ x1)],[1],[],none⟩,.fr 26 (λ u_=>[(false,.val Entity_.rep u_ y1.1)]) [0],⟨some 5,none,λ _=>[],λ ds_ u_=>[],[],[],some 3⟩] [[],[],[1],[0,2],[],[3]] [[(false,.box 66 Entity_.rep u5 y1.1)],[(true,.slice 66 Entity_.rep u2 s1.2)]] [0,2,3,4,5,6,7] Qi rfl rfl rfl rfl h12 (.early ?_ (.cons ?_ (.cons ?_ (.cons ?_ (.cons ?_ (.cons ?_ .nil)))))) (λ q1 w hq1 h=>?_)
  ·intro q1 w Γx Ωx h
   refine OpS.mv rfl rfl rfl ?_
   exact du h
  ·intro q1 w Γx Ωx h
   refine OpS.loadB h .z PA.z Get.id ty66 rfl rfl rfl (λ u h17=>?_)
   exact ⟨u,rfl,trivial,h17⟩
  ·intro q1 w Γx Ωx h
   refine OpS.lit (r:=Entity_.rep) (f:=false) h Tryz.underlying43 ti66 rfl rfl rfl rfl rfl (.cons rfl (V.at .z) .nil) rfl rfl (λ u w9 h18=>?_)
   exact ⟨u,rfl,trivial,h18⟩
  ·intro q1 w Γx Ωx h
   refine OpS.app (f':=false) h .z Tryz.underlying43 ti66 rfl rfl rfl rfl rfl rfl rfl (V.at .z) (.inr Entity_.pure) e3 (λ u w10 h19=>?_)
   exact ⟨u,rfl,trivial,h19⟩
  ·intro q1 w Γx Ωx h
   refine OpS.loadB h .z PA.z Get.id ty66 rfl rfl rfl (λ u h20=>?_)
   exact ⟨u,rfl,trivial,h20⟩
  ·intro q1 w Γx Ωx h
   refine OpS.as rfl rfl rfl ?_
   exact ⟨_,rfl,rfl,h⟩
  have h21:=h
  refine RunL.slim [(22,u2),(23,(q1 1)),(24,(q1 2)),(25,(q1 3)),(26,(q1 4)),(5,(q1 3)),(0,v0),(3,u1),(6,u5)] ⟨rfl,rfl,rfl,rfl,rfl,(congrArg some (hq1 5 _ 3 rfl rfl)),rfl,rfl,rfl,trivial⟩ ?_
  refine op (OpS.storeB (f':=false) h21 (.s (.s .z)) PA.z Put.id ty66 rfl rfl rfl (V.at (.s (.s .z))) (.inr rfl) (λ w11 h22=>?_))
  refine nil (Run.endBlock (Run.slim [(0,v0),(3,u1),(5,(q1 3))] ⟨rfl,rfl,rfl,trivial⟩ ?_))
  exact hk1 (y1.1,x1) _ _ ⟨(q1 3),rfl,(h22.facts (.atm (.s (.s (.s .z))) .nil)).picks (.cons .z (.cons (.s .z) .nil))⟩ hF
 refine RunL.caseb hF (λ e4 hF=>?_) (λ e4 hF=>?_)
 ·refine gp rfl (gp rfl (gp rfl (gk rfl (nil (Run.slim [(0,v0),(3,u1),(5,u2),(6,u5),(20,.bool true)] ⟨rfl,rfl,rfl,rfl,rfl,trivial⟩ ?_)))))
  exact hj1 (true) _ _ ⟨rfl,(h10.facts (.atm (.s (.s .z)) .nil)).picks (.cons (.s .z) (.cons .z (.cons .z .nil)))⟩ hF
 refine gm rfl (op (OpS.loadB h10 .z PA.z Get.id ty66 rfl rfl rfl (λ u6 h23=>?_)))
 obtain ⟨y2,e5,hF⟩:=Qa hF
 refine op (OpS.callP h23 Tryz.func160 rfl rfl rfl rfl (vs:=[u2,u6]) rfl (Qav e5) (.own (.s (.s .z)) (.cons (f:=false) (V.at .z) .nil)) ?_)
 rintro _ w12 _ _ _ ⟨rfl,rfl,rfl,rfl⟩ h24
 have h25:=h24 rfl rfl
 simp only [ca,na] at h25
 refine gk rfl (nil (Run.slim [(0,v0),(3,u1),(5,u2),(6,u5),(20,.bool y2)] ⟨rfl,rfl,rfl,rfl,rfl,trivial⟩ ?_))
 exact hj1 (y2) _ _ ⟨rfl,(h25.facts (.atm (.s (.s (.s .z))) .nil)).picks (.cons (.s .z) (.cons .z (.cons .z .nil)))⟩ hF
set_option maxRecDepth 20000 in
theorem Qjv {fuel:Nat} {a0:List Association_} {y:Int} (hF:Qeo fuel a0=some y) {w:World} {v0:Value} :
  Spec Tryz.prog 96 [v0].toArray w [(false,.val (Rep.slice Association_.rep) v0 a0)] [] (λ v Γr Ωr Ωo=>v=.int .i64 y∧Γr=[]∧Ωr=[]∧Ωo=[]):=by
 refine Spec.of (L:=[(0,v0)]) Tryz.func96 rfl ⟨rfl,trivial⟩ rfl (λ e h=>?_)
 unfold Qeo at hF
 refine sr (ga rfl (nil (Run.seq (sr (gm rfl (op (OpS.len h Tryz.underlying76 rfl rfl rfl (V.at .z) ?_)))))))
 refine gb rfl (nil ?_)
 refine Run.ite rfl hF (λ e1 hF=>?_) (λ e1 hF=>?_)
 ·refine sr (ga rfl (nil (Run.retP rfl (.tmp rfl .nil) ?_)))
  cases hF
  exact Post.mk' ⟨rfl,rfl,rfl,rfl⟩ (h.picks .nil) .nil
 refine Run.skip (sr (op (OpS.mkmapk (kr:=Entity_.rep) (r:=Rep.bool) h rfl rfl (λ u1 w1 h1=>?_))))
 refine ga rfl (nil (Run.seq (sr (gm rfl (op (OpS.len h1 Tryz.underlying76 rfl rfl rfl (V.at .z) ?_))))))
 refine gm rfl (nil (Run.block (Run.slim [(0,v0),(3,u1),(12,v0),(13,.int .i64 (a0.length:Int)),(14,.int .i64 0)] ⟨rfl,rfl,rfl,rfl,rfl,trivial⟩ ?_)))
 refine Run.loopP (σ:=(Int×(List (Entity_×Bool)))) (λ s_ L_ w_=>L_=[(0,v0),(3,u1),(12,v0),(13,.int .i64 (a0.length:Int)),(14,.int .i64 s_.1)]∧St e w_ [(false,.val (Rep.slice Association_.rep) v0 a0)] [(true,.mpk 294 Entity_.rep Rep.bool u1 s_.2)]) hF ⟨rfl,(h1.facts (.atm .z .nil)).picks (.cons .z .nil)⟩ (λ k1 hk1 s1 _ w2 hI hF=>?_)
 obtain ⟨rfl,h2⟩:=hI
 refine sr (gb rfl (nil (Run.seq ?_)))
 refine Run.ite rfl hF (λ e2 hF=>?_) (λ e2 hF=>?_)
 ·refine Run.skip (Run.seq (Run.block (sr ?_)))
  obtain ⟨x1,e3,hF⟩:=Qa hF
  refine op (OpS.iptr h2 Tryz.underlying76 ty83 rfl rfl rfl rfl (V.at .z) e3 (λ u2 h3=>?_))
  refine op (OpS.load h3 ty83 rfl rfl rfl .z (λ u3 h4=>?_))
  refine op (OpS.alloc h4 ti83 Association_.zr rfl rfl (λ u4 w3 h5=>?_))
  have h6:=(h5.pick .z).weak
  refine op (OpS.storeB (f':=false) h6 .z PA.z Put.id ty83 rfl rfl rfl (V.at .z) (.inr rfl) (λ w4 h7=>?_))
  refine nil (Run.seq (sr (gm rfl (op (OpS.fbox (o3:=2) h7 .z PA.z Qod rfl rfl rfl rfl ?_)))))
  refine op (OpS.loadB h7 .z PA.a (Get.fld Association_.f1) ty66 rfl rfl rfl (λ u5 h8=>?_))
  refine op (OpS.mlookkB h8 (.s .z) Tryz.underlying294 keyt66 ti4 rfl rfl rfl rfl (V.at .z) ?_)
  refine nil ?_
  refine Run.ite rfl hF (λ e4 hF=>?_) (λ e4 hF=>?_)
  ·refine sr (ga rfl (nil (Run.retP rfl (.tmp rfl .nil) ?_)))
   cases hF
   exact Post.mk' ⟨rfl,rfl,rfl,rfl⟩ (h8.picks .nil) .nil
  refine Run.skip (Run.reg (gm rfl (op (OpS.fbox (o3:=2) h8 .z PA.z Qod rfl rfl rfl rfl ?_))))
  refine op (OpS.loadB h8 .z PA.a (Get.fld Association_.f1) ty66 rfl rfl rfl (λ u6 h9=>?_))
  obtain ⟨d1,e5,hF⟩:=Qh hF
  refine op (OpS.mupdk (f1:=true) (f':=true) h9 (.s .z) Tryz.underlying294 keyt66 rfl rfl rfl rfl (V.pure (V.at .z) Entity_.pure) (.inl rfl) V.bool (.inl rfl) e5 (λ w5 h10=>?_))
  refine nil (Run.endBlock (Run.reg (gb rfl (gm rfl (nil (Run.slim [(0,v0),(3,u1),(12,v0),(13,.int .i64 (a0.length:Int)),(14,.int .i64 (IntKind.i64.wrap (s1.1+1)))] ⟨rfl,rfl,rfl,rfl,rfl,trivial⟩ ?_))))))
  exact hk1 ((IntKind.i64.wrap (s1.1+1)),d1) _ _ ⟨rfl,(h10.facts (.atm (.s (.s (.s (.s .z)))) .nil)).picks (.cons .z .nil)⟩ hF
 refine Run.exit rfl ?_
 refine Run.seq (sr (gm rfl (op (OpS.len h2 Tryz.underlying76 rfl rfl rfl (V.at .z) ?_))))
 refine gm rfl (nil (Run.block (Run.slim [(0,v0),(26,v0),(27,.int .i64 (a0.length:Int)),(28,.int .i64 0)] ⟨rfl,rfl,rfl,rfl,trivial⟩ ?_)))
 refine Run.loopP (σ:=Int) (λ s_ L_ w_=>L_=[(0,v0),(26,v0),(27,.int .i64 (a0.length:Int)),(28,.int .i64 s_)]∧St e w_ [(false,.val (Rep.slice Association_.rep) v0 a0)] []) hF ⟨rfl,(h2.facts (.atm .z .nil)).picks .nil⟩ (λ k2 hk2 s2 _ w6 hI hF=>?_)
 obtain ⟨rfl,h11⟩:=hI
 refine sr (gb rfl (nil (Run.seq ?_)))
 refine Run.ite rfl hF (λ e6 hF=>?_) (λ e6 hF=>?_)
 ·refine Run.skip (Run.seq (Run.block (sr ?_)))
  obtain ⟨x2,e7,hF⟩:=Qa hF
  refine op (OpS.iptr h11 Tryz.underlying76 ty83 rfl rfl rfl rfl (V.at .z) e7 (λ u7 h12=>?_))
  refine op (OpS.load h12 ty83 rfl rfl rfl .z (λ u8 h13=>?_))
  refine op (OpS.alloc h13 ti83 Association_.zr rfl rfl (λ u9 w7 h14=>?_))
  have h15:=(h14.pick .z).weak
  refine op (OpS.storeB (f':=false) h15 .z PA.z Put.id ty83 rfl rfl rfl (V.at .z) (.inr rfl) (λ w8 h16=>?_))
  refine nil (Run.seq ?_)
  obtain ⟨y1,e8,hF⟩:=Qa hF
  refine Run.drawV (Ωs:=[]) [.k 32 v0,.kr 33 (padd u9 2) [0],.fr 34 (λ u_=>[(false,.val Entity_.rep u_ x2.Contained)]) [0],.f 35 (λ u_=>[(true,.val (Rep.slice Entity_.rep) u_ y1)]),.kr 36 (padd u9 2) [0],.fr 37 (λ u_=>[(false,.val Entity_.rep u_ x2.Contained)]) [0]] [[],[],[1],[0,2],[],[4]] [[(false,.box 83 Association_.rep u9 x2)]] [0,1,2,3,4,5,6] Qi rfl rfl rfl h16 (.cons ?_ (.cons ?_ (.cons ?_ (.cons ?_ (.cons ?_ (.cons ?_ .nil)))))) (λ q1 w hq1 h=>?_)
  ·intro q1 w Γx Ωx h
   refine OpS.mv rfl rfl rfl ?_
   exact du h
  ·intro q1 w Γx Ωx h
   refine OpS.fbox (o3:=2) h .z PA.z Qod rfl rfl rfl rfl ?_
   exact du h
  ·intro q1 w Γx Ωx h
   refine OpS.loadB h .z PA.a (Get.fld Association_.f1) ty66 rfl rfl rfl (λ u h22=>?_)
   exact ⟨u,rfl,trivial,h22⟩
  ·intro q1 w Γx Ωx h
   refine OpS.callP h Tryz.func161 rfl rfl rfl rfl (vs:=[v0,(q1 2)]) rfl (Qjj e8) (.cons (f:=false) (V.at (.s (.s (.s .z)))) (.cons (f:=false) (V.at .z) .nil)) ?_
   rintro u w10 _ _ _ ⟨_,rfl,rfl,rfl,rfl⟩ h23
   have h24:=h23 rfl rfl
   simp only [ca,na] at h24
   have h25:=h24.freeze
   exact ⟨u,rfl,trivial,h25⟩
  ·intro q1 w Γx Ωx h
   refine OpS.fbox (o3:=2) h .z PA.z Qod rfl rfl rfl rfl ?_
   exact du h
  ·intro q1 w Γx Ωx h
   refine OpS.loadB h .z PA.a (Get.fld Association_.f1) ty66 rfl rfl rfl (λ u h26=>?_)
   exact ⟨u,rfl,trivial,h26⟩
  have h27:=h
  obtain ⟨y2,e9,hF⟩:=Qa hF
  refine op (OpS.callP h27 Tryz.func160 rfl rfl rfl rfl (vs:=[(q1 3),(q1 5)]) rfl (Qav e9) (.cons (f:=true) (V.at (.s .z)) (.cons (f:=false) (V.at (.s (.s .z))) .nil)) ?_)
  rintro _ w11 _ _ _ ⟨rfl,rfl,rfl,rfl⟩ h28
  have h29:=h28 rfl rfl
  simp only [ca,na] at h29
  refine nil ?_
  refine Run.ite rfl hF (λ e10 hF=>?_) (λ e10 hF=>?_)
  ·refine sr (ga rfl (nil (Run.retP rfl (.tmp rfl .nil) ?_)))
   cases hF
   exact Post.mk' ⟨rfl,rfl,rfl,rfl⟩ (h29.picks .nil) .nil
  refine Run.skip (Run.endBlock (Run.reg (gb rfl (gm rfl (nil (Run.slim [(0,v0),(26,v0),(27,.int .i64 (a0.length:Int)),(28,.int .i64 (IntKind.i64.wrap (s2+1)))] ⟨rfl,rfl,rfl,rfl,trivial⟩ ?_))))))
  exact hk2 ((IntKind.i64.wrap (s2+1))) _ _ ⟨rfl,(h29.facts (.atm (.s (.s (.s (.s (.s .z))))) .nil)).picks .nil⟩ hF
 refine Run.exit rfl ?_
 refine sr (ga rfl (nil (Run.retP rfl (.tmp rfl .nil) ?_)))
 cases hF
 exact Post.mk' ⟨rfl,rfl,rfl,rfl⟩ (h11.picks .nil) .nil
theorem Qfs {fuel:Nat} {a0:List Sensor_} {y:(List Sensor_)} (hF:Qai fuel a0=some y) {w:World} {v0:Value} :
  Spec Tryz.prog 97 [v0].toArray w [(false,.val (Rep.slice Sensor_.rep) v0 a0)] [] (λ v Γr Ωr Ωo=>∃ u0:Value,v=u0∧Γr=[]∧Ωr=[(false,(.slice 74 Sensor_.rep u0 y))]∧Ωo=[]):=by
 refine Spec.of (L:=[(0,v0)]) Tryz.func97 rfl ⟨rfl,trivial⟩ rfl (λ e h=>?_)
 unfold Qai at hF
 refine sr (ga rfl (nil (Run.seq (sr (gm rfl (op (OpS.snil h Tryz.underlying27 rfl rfl rfl (V.at .z) (λ b1 hb1=>?_))))))))
 refine nil ?_
 cases b1
 ·refine Run.condF rfl ?_
  refine Run.skip (sr (op (OpS.litO (r:=Sensor_.rep) (f:=true) h Tryz.underlying27 ti74 rfl rfl rfl rfl rfl .nil rfl rfl (λ u1 w1 h1=>?_))))
  refine gm rfl ?_
  obtain ⟨x1,e1,hF⟩:=Qa hF
  have h2:=(h1.pick .z).weak
  refine op (OpS.app (f':=false) h2 .z Tryz.underlying27 ti74 rfl rfl rfl rfl rfl rfl rfl (V.at .z) (.inl (.inr rfl)) e1 (λ u2 w2 h3=>?_))
  refine ga rfl (nil (Run.retP rfl (.tmp rfl .nil) ?_))
  cases hF
  exact Post.mk' ⟨u2,rfl,rfl,rfl,rfl⟩ (h3.picks (.cons .z .nil)) .nil
 obtain rfl:=hb1 rfl
 have hF:some ([]:List Sensor_)=some y:=by simpa [bindP,app] using hF
 refine Run.condT rfl ?_
 refine sr (ga rfl (nil ?_))
 have h4:=St.nil 74 Sensor_.rep h
 have h5:=(h4.pick .z).weak
 refine Run.retP rfl (.tmp rfl .nil) ?_
 cases hF
 exact Post.mk' ⟨(.slice none 0 0),rfl,rfl,rfl,rfl⟩ (h5.picks (.cons .z .nil)) .nil
theorem Qdy {fuel:Nat} {a0:List Association_} {y:(List Association_)} (hF:Qaa fuel a0=some y) {w:World} {v0:Value} :
  Spec Tryz.prog 98 [v0].toArray w [(false,.val (Rep.slice Association_.rep) v0 a0)] [] (λ v Γr Ωr Ωo=>∃ u0:Value,v=u0∧Γr=[]∧Ωr=[(true,(.slice 83 Association_.rep u0 y))]∧Ωo=[]):=by
 refine Spec.of (L:=[(0,v0)]) Tryz.func98 rfl ⟨rfl,trivial⟩ rfl (λ e h=>?_)
 unfold Qaa at hF
 refine sr (ga rfl (nil (Run.seq (sr (gm rfl (op (OpS.snil h Tryz.underlying76 rfl rfl rfl (V.at .z) (λ b1 hb1=>?_))))))))
 refine nil ?_
 cases b1
 ·refine Run.condF rfl ?_
  refine Run.skip (sr (op (OpS.litO (r:=Association_.rep) (f:=true) h Tryz.underlying76 ti83 rfl rfl rfl rfl rfl .nil rfl rfl (λ u1 w1 h1=>?_))))
  refine gm rfl ?_
  obtain ⟨x1,e1,hF⟩:=Qa hF
  refine op (OpS.app (f':=false) h1 .z Tryz.underlying76 ti83 rfl rfl rfl rfl rfl rfl rfl (V.at .z) (.inr Association_.pure) e1 (λ u2 w2 h2=>?_))
  refine ga rfl (nil (Run.retP rfl (.tmp rfl .nil) ?_))
  cases hF
  exact Post.mk' ⟨u2,rfl,rfl,rfl,rfl⟩ (h2.picks (.cons .z .nil)) .nil
 obtain rfl:=hb1 rfl
 have hF:some ([]:List Association_)=some y:=by simpa [bindP,app] using hF
 refine Run.condT rfl ?_
 refine sr (ga rfl (nil ?_))
 have h3:=St.nil 83 Association_.rep h
 refine Run.retP rfl (.tmp rfl .nil) ?_
 cases hF
 exact Post.mk' ⟨(.slice none 0 0),rfl,rfl,rfl,rfl⟩ (h3.picks (.cons .z .nil)) .nil
theorem Qfz {fuel:Nat} {a0:List Point_} {y:(List Point_)} (hF:Qal fuel a0=some y) {w:World} {v0:Value} :
  Spec Tryz.prog 99 [v0].toArray w [(false,.val (Rep.slice Point_.rep) v0 a0)] [] (λ v Γr Ωr Ωo=>∃ u0:Value,v=u0∧Γr=[]∧Ωr=[(true,(.slice 211 Point_.rep u0 y))]∧Ωo=[]):=by
 refine Spec.of (L:=[(0,v0)]) Tryz.func99 rfl ⟨rfl,trivial⟩ rfl (λ e h=>?_)
 unfold Qal at hF
 refine sr (ga rfl (nil (Run.seq (sr (gm rfl (op (OpS.snil h Tryz.underlying67 rfl rfl rfl (V.at .z) (λ b1 hb1=>?_))))))))
 refine nil ?_
 cases b1
 ·refine Run.condF rfl ?_
  refine Run.skip (sr (op (OpS.litO (r:=Point_.rep) (f:=true) h Tryz.underlying67 ti211 rfl rfl rfl rfl rfl .nil rfl rfl (λ u1 w1 h1=>?_))))
  refine gm rfl ?_
  obtain ⟨x1,e1,hF⟩:=Qa hF
  refine op (OpS.app (f':=false) h1 .z Tryz.underlying67 ti211 rfl rfl rfl rfl rfl rfl rfl (V.at .z) (.inr Point_.pure) e1 (λ u2 w2 h2=>?_))
  refine ga rfl (nil (Run.retP rfl (.tmp rfl .nil) ?_))
  cases hF
  exact Post.mk' ⟨u2,rfl,rfl,rfl,rfl⟩ (h2.picks (.cons .z .nil)) .nil
 obtain rfl:=hb1 rfl
 have hF:some ([]:List Point_)=some y:=by simpa [bindP,app] using hF
 refine Run.condT rfl ?_
 refine sr (ga rfl (nil ?_))
 have h3:=St.nil 211 Point_.rep h
 refine Run.retP rfl (.tmp rfl .nil) ?_
 cases hF
 exact Post.mk' ⟨(.slice none 0 0),rfl,rfl,rfl,rfl⟩ (h3.picks (.cons .z .nil)) .nil
set_option maxHeartbeats 8000000 in set_option maxRecDepth 20000 in
theorem Qke {fuel:Nat} {a0:List Sensor_} {a1:List Association_} {y:(Option Qd)×Int} (hF:Qfo fuel a0 a1=some y) {w:World} {v0 v1:Value} :
  Spec Tryz.prog 30 [v0,v1].toArray w [(false,.val (Rep.slice Sensor_.rep) v0 a0),(false,.val (Rep.slice Association_.rep) v1 a1)] [] (λ v Γr Ωr Ωo=>∃ u0:Value,v=.tuple #[u0,.int .i64 y.2]∧Γr=[]∧Ωr=[(false,.opt (Qd.mem u0) u0 y.1)]∧Ωo=[]):=by
 refine Spec.of (L:=[(0,v0),(1,v1)]) Tryz.func30 rfl ⟨rfl,rfl,trivial⟩ rfl (λ e h=>?_)
 unfold Qfo at hF
 refine sr (ga rfl (ga rfl (nil (Run.seq (sr (gm rfl ?_))))))
 obtain ⟨y1,e1,hF⟩:=Qa hF
 refine op (OpS.callP h Tryz.func90 rfl rfl rfl rfl (vs:=[v0]) rfl (Qjk e1) (.cons (f:=false) (V.at .z) .nil) ?_)
 rintro _ w1 _ _ _ ⟨rfl,rfl,rfl,rfl⟩ h1
 have h2:=h1 rfl rfl
 simp only [ca,na] at h2
 refine ga rfl (nil (sr (gm rfl (gb rfl (nil ?_)))))
 refine Run.ite rfl hF (λ e2 hF=>?_) (λ e2 hF=>?_)
 ·refine sr (gm rfl (ga rfl (ga rfl (nil ?_))))
  have h3:=St.none (Qd.mem (.pointer none)) h2
  have h4:=(h3.pick .z).weak
  refine Run.retP rfl (.tmp rfl (.tmp rfl .nil)) ?_
  cases hF
  exact Post.mk' ⟨(.pointer none),rfl,rfl,rfl,rfl⟩ (h4.picks (.cons .z .nil)) .nil
 refine Run.skip (Run.seq (sr (gm rfl ?_)))
 obtain ⟨y2,e3,hF⟩:=Qa hF
 refine op (OpS.callP h2 Tryz.func96 rfl rfl rfl rfl (vs:=[v1]) rfl (Qjv e3) (.cons (f:=false) (V.at (.s .z)) .nil) ?_)
 rintro _ w2 _ _ _ ⟨rfl,rfl,rfl,rfl⟩ h5
 have h6:=h5 rfl rfl
 simp only [ca,na] at h6
 refine ga rfl (nil (sr (gm rfl (gb rfl (nil ?_)))))
 refine Run.ite rfl hF (λ e4 hF=>?_) (λ e4 hF=>?_)
 ·refine sr (gm rfl (ga rfl (ga rfl (nil ?_))))
  have h7:=St.none (Qd.mem (.pointer none)) h6
  have h8:=(h7.pick .z).weak
  refine Run.retP rfl (.tmp rfl (.tmp rfl .nil)) ?_
  cases hF
  exact Post.mk' ⟨(.pointer none),rfl,rfl,rfl,rfl⟩ (h8.picks (.cons .z .nil)) .nil
 refine Run.skip (Run.seq ?_)
 obtain ⟨y3,e5,hF⟩:=Qa hF
 obtain ⟨y4,e6,hF⟩:=Qa hF
 obtain ⟨x1,e7,hF⟩:=Qa hF
 obtain ⟨x2,e8,hF⟩:=Qa hF
 refine Run.drawV (Ωs:=[]) [.k 20 v0,⟨some 21,none,λ u_=>[],λ ds_ u_=>[(false,.slice 74 Sensor_.rep u_ y3)],[],[],none⟩,.k 22 v1,.f 23 (λ u_=>[(true,.val (Rep.slice Association_.rep) u_ y4)]),.k 24 v0,.k 25 (.int .i64 (a0.length:Int)),⟨some 26,none,λ u_=>[],λ ds_ u_=>[(true,.slice 188 Filter_.rep u_ x1)],[],[],none⟩,.k 27 v0,.k 28 (.int .i64 (a0.length:Int)),⟨some 29,none,λ u_=>[],λ ds_ u_=>[(true,.slice 49 (Rep.int .u16) u_ x2)],[],[],none⟩] [[],[0],[],[2],[],[4],[5],[],[7],[8]] [] [0,1,2,3,4,5,6,7,8,9] Qi rfl rfl rfl h6 (.cons ?_ (.cons ?_ (.cons ?_ (.cons ?_ (.cons ?_ (.cons ?_ (.cons ?_ (.cons ?_ (.cons ?_ (.cons ?_ .nil)))))))))) (λ q1 w hq1 h=>?_)
 ·intro q1 w Γx Ωx h
  refine OpS.mv rfl rfl rfl ?_
  exact du h
 ·intro q1 w Γx Ωx h
  have h17:=h.front .nil
  refine OpS.callO h17 Tryz.func97 rfl rfl rfl rfl (vs:=[v0]) rfl (Qfs e5) rfl (.cons (f:=false) (V.at .z) .nil) ?_
  rintro u w7 _ _ _ ⟨_,rfl,rfl,rfl,rfl⟩ h18
  have h19:=h18
  simp only [ca,na] at h19
  exact ⟨u,rfl,trivial,h19⟩
 ·intro q1 w Γx Ωx h
  refine OpS.mv rfl rfl rfl ?_
  exact du h
 ·intro q1 w Γx Ωx h
  refine OpS.callP h Tryz.func98 rfl rfl rfl rfl (vs:=[v1]) rfl (Qdy e6) (.cons (f:=false) (V.at (.s .z)) .nil) ?_
  rintro u w8 _ _ _ ⟨_,rfl,rfl,rfl,rfl⟩ h20
  have h21:=h20 rfl rfl
  simp only [ca,na] at h21
  have h22:=h21.freeze
  exact ⟨u,rfl,trivial,h22⟩
 ·intro q1 w Γx Ωx h
  refine OpS.mv rfl rfl rfl ?_
  exact du h
 ·intro q1 w Γx Ωx h
  refine OpS.len h Tryz.underlying27 rfl rfl rfl (V.at .z) ?_
  exact du h
 ·intro q1 w Γx Ωx h
  refine OpS.make h Tryz.underlying182 ti188 rfl rfl Filter_.zr rfl rfl rfl rfl e7 (by simp) (Qhl e7) rfl (λ u w9 h23=>?_)
  exact ⟨u,rfl,trivial,h23⟩
 ·intro q1 w Γx Ωx h
  refine OpS.mv rfl rfl rfl ?_
  exact du h
 ·intro q1 w Γx Ωx h
  refine OpS.len h Tryz.underlying27 rfl rfl rfl (V.at .z) ?_
  exact du h
 ·intro q1 w Γx Ωx h
  refine OpS.make h Tryz.underlying60 ti49 rfl rfl (Zr.int .u16 0) rfl rfl rfl rfl e8 (by simp) (Qhl e8) rfl (λ u w10 h24=>?_)
  exact ⟨u,rfl,trivial,h24⟩
 have h25:=h
 refine op (OpS.buildC (f:=true) (r:=Qd.rep) (x:=Qd.z) (r':=(Rep.iso (λ s:Qd=>(s.sensors,s.l,s.filters,s.states,())) (Rep.prod (Rep.raw (α:=List Sensor_) (q1 1)) (Rep.prod (Rep.slice Association_.rep) (Rep.prod (Rep.raw (α:=List Filter_) (q1 6)) (Rep.prod (Rep.raw (α:=List Int) (q1 9)) Rep.unit)))))) (x':=(⟨[],y4,[],[]⟩:Qd)) h25 pl184 ti184 Qd.zr rfl rfl rfl (.cons (Rep.raw (q1 1)) Qd.rep (Rep.iso (λ s:Qd=>(s.sensors,s.l,s.filters,s.states,())) (Rep.prod (Rep.raw (α:=List Sensor_) (q1 1)) (Rep.prod (Rep.slice Association_.rep) (Rep.prod (Rep.slice Filter_.rep) (Rep.prod (Rep.slice (Rep.int .u16)) Rep.unit))))) Qd.z (⟨[],[],[],[]⟩:Qd) (Chg.iso _ (Chg.here (Chg.id (by rfl)))) rfl rfl (V.raw (f:=true) (St.own1 h25 .z) []) (.cons (Rep.slice Association_.rep) (Rep.iso (λ s:Qd=>(s.sensors,s.l,s.filters,s.states,())) (Rep.prod (Rep.raw (α:=List Sensor_) (q1 1)) (Rep.prod (Rep.slice Association_.rep) (Rep.prod (Rep.slice Filter_.rep) (Rep.prod (Rep.slice (Rep.int .u16)) Rep.unit))))) (Rep.iso (λ s:Qd=>(s.sensors,s.l,s.filters,s.states,())) (Rep.prod (Rep.raw (α:=List Sensor_) (q1 1)) (Rep.prod (Rep.slice Association_.rep) (Rep.prod (Rep.slice Filter_.rep) (Rep.prod (Rep.slice (Rep.int .u16)) Rep.unit))))) (⟨[],[],[],[]⟩:Qd) (⟨[],y4,[],[]⟩:Qd) (Chg.iso _ (Chg.there (Chg.here (Chg.id (by rfl))))) rfl rfl (V.at .z) (.cons (Rep.raw (q1 6)) (Rep.iso (λ s:Qd=>(s.sensors,s.l,s.filters,s.states,())) (Rep.prod (Rep.raw (α:=List Sensor_) (q1 1)) (Rep.prod (Rep.slice Association_.rep) (Rep.prod (Rep.slice Filter_.rep) (Rep.prod (Rep.slice (Rep.int .u16)) Rep.unit))))) (Rep.iso (λ s:Qd=>(s.sensors,s.l,s.filters,s.states,())) (Rep.prod (Rep.raw (α:=List Sensor_) (q1 1)) (Rep.prod (Rep.slice Association_.rep) (Rep.prod (Rep.raw (α:=List Filter_) (q1 6)) (Rep.prod (Rep.slice (Rep.int .u16)) Rep.unit))))) (⟨[],y4,[],[]⟩:Qd) (⟨[],y4,[],[]⟩:Qd) (Chg.iso _ (Chg.there (Chg.there (Chg.here (Chg.id (by rfl)))))) rfl rfl (V.raw (f:=true) (St.own1 h25 (.s .z)) []) (.cons (Rep.raw (q1 9)) (Rep.iso (λ s:Qd=>(s.sensors,s.l,s.filters,s.states,())) (Rep.prod (Rep.raw (α:=List Sensor_) (q1 1)) (Rep.prod (Rep.slice Association_.rep) (Rep.prod (Rep.raw (α:=List Filter_) (q1 6)) (Rep.prod (Rep.slice (Rep.int .u16)) Rep.unit))))) (Rep.iso (λ s:Qd=>(s.sensors,s.l,s.filters,s.states,())) (Rep.prod (Rep.raw (α:=List Sensor_) (q1 1)) (Rep.prod (Rep.slice Association_.rep) (Rep.prod (Rep.raw (α:=List Filter_) (q1 6)) (Rep.prod (Rep.raw (α:=List Int) (q1 9)) Rep.unit))))) (⟨[],y4,[],[]⟩:Qd) (⟨[],y4,[],[]⟩:Qd) (Chg.iso _ (Chg.there (Chg.there (Chg.there (Chg.here (Chg.id (by rfl))))))) rfl rfl (V.raw (f:=true) (St.own1 h25 (.s (.s .z))) []) .nil)))) (λ u1 h26=>?_))
 refine op (OpS.box (f':=true) h26 rfl rfl rfl (V.at .z) (λ u2 w11 h27=>?_))
 refine ga rfl (nil (Run.seq (sr (gm rfl (op (OpS.nchk h27 .z rfl rfl rfl ?_))))))
 refine op (OpS.fbox (o3:=0) h27 .z PA.z Qhm rfl rfl rfl rfl ?_)
 refine op (OpS.loadR h27 .z PA.a (GetS.ok (GetS.iso _ (GetS.here GetS.id))) ty27 rfl rfl rfl rfl rfl ?_)
 refine op (OpS.lenO h27 (.s .z) Tryz.underlying27 rfl rfl rfl ?_)
 refine gm rfl (nil (Run.block (Run.slim [(0,v0),(8,u2),(36,.int .i64 (y3.length:Int)),(37,.int .i64 0)] ⟨rfl,rfl,rfl,rfl,trivial⟩ ?_)))
 refine Run.loopP (σ:=(Int×(List Sensor_))) (λ s_ L_ w_=>L_=[(0,v0),(8,u2),(36,.int .i64 (y3.length:Int)),(37,.int .i64 s_.1)]∧St e w_ [(false,.val (Rep.slice Sensor_.rep) v0 a0)] [(true,.box 184 (Rep.iso (λ s:Qd=>(s.sensors,s.l,s.filters,s.states,())) (Rep.prod (Rep.raw (α:=List Sensor_) (q1 1)) (Rep.prod (Rep.slice Association_.rep) (Rep.prod (Rep.raw (α:=List Filter_) (q1 6)) (Rep.prod (Rep.raw (α:=List Int) (q1 9)) Rep.unit))))) u2 (⟨[],y4,[],[]⟩:Qd)),(false,.slice 74 Sensor_.rep (q1 1) s_.2),(true,.slice 188 Filter_.rep (q1 6) x1),(true,.slice 49 (Rep.int .u16) (q1 9) x2)]) hF ⟨rfl,(h27.facts (.atm (.s (.s .z)) .nil)).picks (.cons .z (.cons .z (.cons .z (.cons .z .nil))))⟩ (λ k1 hk1 s1 _ w12 hI hF=>?_)
 obtain ⟨rfl,h28⟩:=hI
 refine sr (gb rfl (nil (Run.seq ?_)))
 refine Run.ite rfl hF (λ e9 hF=>?_) (λ e9 hF=>?_)
 ·refine Run.skip (Run.seq (Run.block (sr (gm rfl (ga rfl (nil ?_))))))
  obtain ⟨x3,e10,hF⟩:=Qa hF
  obtain ⟨y5,e11,hF⟩:=Qa hF
  refine Run.drawV (Ωs:=[(false,.slice 74 Sensor_.rep (q1 1) s1.2),(true,.slice 188 Filter_.rep (q1 6) x1),(true,.slice 49 (Rep.int .u16) (q1 9) x2)]) [.k 40 u2,.kr 41 u2 [0],.kr 42 (padd u2 0) [0],.kr 43 (q1 1) [0],.k 44 (.int .i64 s1.1),.k 45 v0,.k 46 (.int .i64 s1.1),.f 47 (λ u_=>[(false,.ptr Sensor_.rep u_ x3)]),.f 48 (λ u_=>[(false,.ptr Conversion_.rep u_ x3.Conversion)]),.f 49 (λ u_=>[(false,.ptr (Rep.slice Point_.rep) u_ x3.Conversion.Points)]),.f 50 (λ u_=>[(false,.val (Rep.slice Point_.rep) u_ x3.Conversion.Points)]),.f 51 (λ u_=>[(true,.val (Rep.slice Point_.rep) u_ y5)])] [[],[0],[1],[2],[],[],[],[5,6],[7],[8],[9],[10]] [[(true,.box 184 (Rep.iso (λ s:Qd=>(s.sensors,s.l,s.filters,s.states,())) (Rep.prod (Rep.raw (α:=List Sensor_) (q1 1)) (Rep.prod (Rep.slice Association_.rep) (Rep.prod (Rep.raw (α:=List Filter_) (q1 6)) (Rep.prod (Rep.raw (α:=List Int) (q1 9)) Rep.unit))))) u2 (⟨[],y4,[],[]⟩:Qd))]] [0,1,2,3,4,5,6,7,8,9,10,11,12] Qi rfl rfl rfl h28 (.cons ?_ (.cons ?_ (.cons ?_ (.cons ?_ (.cons ?_ (.cons ?_ (.cons ?_ (.cons ?_ (.cons ?_ (.cons ?_ (.cons ?_ (.cons ?_ .nil)))))))))))) (λ q2 w hq2 h=>?_)
  ·intro q2 w Γx Ωx h
   refine OpS.mv rfl rfl rfl ?_
   exact du h
  ·intro q2 w Γx Ωx h
   refine OpS.nchk h .z rfl rfl rfl ?_
   exact du h
  ·intro q2 w Γx Ωx h
   refine OpS.fbox (o3:=0) h .z PA.z Qhm rfl rfl rfl rfl ?_
   exact du h
  ·intro q2 w Γx Ωx h
   refine OpS.loadR h .z PA.a (GetS.ok (GetS.iso _ (GetS.here GetS.id))) ty27 rfl rfl rfl rfl rfl ?_
   exact du h
  ·intro q2 w Γx Ωx h
   refine OpS.mv rfl rfl rfl ?_
   exact du h
  ·intro q2 w Γx Ωx h
   refine OpS.mv rfl rfl rfl ?_
   exact du h
  ·intro q2 w Γx Ωx h
   refine OpS.mv rfl rfl rfl ?_
   exact du h
  ·intro q2 w Γx Ωx h
   refine OpS.iptr h Tryz.underlying27 ty74 rfl rfl rfl rfl (V.at .z) e10 (λ u h36=>?_)
   exact ⟨u,rfl,trivial,h36⟩
  ·intro q2 w Γx Ωx h
   refine OpS.fptr h Qnq Sensor_.f6 rfl rfl rfl .z (λ u h37=>?_)
   exact ⟨u,rfl,trivial,h37⟩
  ·intro q2 w Γx Ωx h
   refine OpS.fptr h Qnu Conversion_.f6 rfl rfl rfl .z (λ u h38=>?_)
   exact ⟨u,rfl,trivial,h38⟩
  ·intro q2 w Γx Ωx h
   refine OpS.load h ty67 rfl rfl rfl .z (λ u h39=>?_)
   exact ⟨u,rfl,trivial,h39⟩
  ·intro q2 w Γx Ωx h
   refine OpS.callP h Tryz.func99 rfl rfl rfl rfl (vs:=[(q2 10)]) rfl (Qfz e11) (.cons (f:=false) (V.at .z) .nil) ?_
   rintro u w14 _ _ _ ⟨_,rfl,rfl,rfl,rfl⟩ h40
   have h41:=h40 rfl rfl
   simp only [ca,na] at h41
   have h42:=h41.freeze
   exact ⟨u,rfl,trivial,h42⟩
  have h43:=h
  obtain ⟨x4,e12,hF⟩:=Qa hF
  refine op (OpS.iown h43 (.s .z) Tryz.underlying27 ty74 rfl rfl rfl rfl e12 ?_)
  refine op (OpS.fown h43 (.s .z) (Qnl e12) PA.a Qnq rfl rfl rfl ?_)
  refine op (OpS.fown h43 (.s .z) (Qnl e12) PA.a Qnu rfl rfl rfl ?_)
  obtain ⟨d1,e13,hF⟩:=Qh hF
  refine op (OpS.storeO (f':=false) h43 (.s .z) (Qnl e12) PA.a (Put.of (Put.comp (Get.comp (Get.arr e12) (Get.fld Sensor_.f6)) (Put.fld Conversion_.f6) (Put.comp (Get.arr e12) (Put.fld Sensor_.f6) (Put.arr e12))) e13) ty67 rfl rfl rfl (V.weak (V.at (.s (.s (.s (.s .z)))))) (.inr rfl) (λ w15 h44=>?_))
  refine nil (Run.endBlock (Run.reg (gb rfl (gm rfl (nil (Run.slim [(0,v0),(8,u2),(36,.int .i64 (y3.length:Int)),(37,.int .i64 (IntKind.i64.wrap (s1.1+1)))] ⟨rfl,rfl,rfl,rfl,trivial⟩ ?_))))))
  exact hk1 ((IntKind.i64.wrap (s1.1+1)),d1) _ _ ⟨rfl,(h44.facts (.atm (.s (.s (.s (.s (.s .z))))) .nil)).picks (.cons (.s .z) (.cons .z (.cons .z (.cons .z .nil))))⟩ hF
 refine Run.exit rfl ?_
 refine sr (gm rfl (ga rfl (ga rfl (nil ?_))))
 have h45:=St.boxJ (r':=(Rep.iso (λ s:Qd=>(s.sensors,s.l,s.filters,s.states,())) (Rep.prod (Rep.raw (α:=List Sensor_) (q1 1)) (Rep.prod (Rep.slice Association_.rep) (Rep.prod (Rep.raw (α:=List Filter_) (q1 6)) (Rep.prod (Rep.raw (α:=List Int) (q1 9)) Rep.unit)))))) (x':=(⟨s1.2,y4,x1,x2⟩:Qd)) (h28.pick .z) (λ _ _ hs_=>(Jn.iso _ (Jn.prod Jn.same (Jn.prod Jn.refl (Jn.prod Jn.same (Jn.prod Jn.same Jn.refl))))))
 have h46:=(h45.pick (.s .z)).freeze
 have h47:=h46.pick .z
 have h48:=h47.weak
 have h49:=St.boxJ (r':=(Qd.repW (q1 6) (q1 9))) (x':=(⟨s1.2,y4,x1,x2⟩:Qd)) h48 (λ _ _ hs_=>(Jn.iso _ (Jn.prod (Jn.raw ((V.at .z) _ _ hs_) rfl) (Jn.prod Jn.refl (Jn.prod Jn.same (Jn.prod Jn.same Jn.refl))))))
 have h50:=(h49.pick (.s .z)).weak
 have h51:=(h50.pick (.s (.s .z))).weak
 have h52:=h51.front (.cons (.s .z) (.cons .z (.cons .z .nil)))
 have h53:=St.sep h52
 have h54:=St.sep (h53.pick (.s .z))
 have h55:=St.ex (H:=λ w1_=>.sep (.box 184 (Qd.repW (q1 6) w1_) u2 (⟨s1.2,y4,x1,x2⟩:Qd)) (.sep (.slice 188 Filter_.rep (q1 6) x1) (.slice 49 (Rep.int .u16) w1_ x2))) (q1 9) h54
 have h56:=St.ex (H:=λ w0_=>.ex λ w1_=>.sep (.box 184 (Qd.repW w0_ w1_) u2 (⟨s1.2,y4,x1,x2⟩:Qd)) (.sep (.slice 188 Filter_.rep w0_ x1) (.slice 49 (Rep.int .u16) w1_ x2))) (q1 6) h55
 have h57:=St.some (H:=(Qd.mem u2)) (q:=u2) (x:=(⟨s1.2,y4,x1,x2⟩:Qd)) h56
 refine Run.retP rfl (.tmp rfl (.tmp rfl .nil)) ?_
 cases hF
 exact Post.mk' ⟨u2,rfl,rfl,rfl,rfl⟩ (h57.picks (.cons .z .nil)) .nil
theorem Qqw {fuel:Nat} {a0:Int} {a1:Int} {y:Int×Int} (hF:Qis fuel a0 a1=some y) {w:World} :
  Spec Tryz.prog 202 [.int .u64 a0,.int .u64 a1].toArray w [] [] (λ v Γr Ωr Ωo=>v=.tuple #[.int .u64 y.1,.int .u64 y.2]∧Γr=[]∧Ωr=[]∧Ωo=[]):=by
 refine Spec.of (L:=[(0,.int .u64 a0),(1,.int .u64 a1)]) Tryz.func202 rfl ⟨rfl,rfl,trivial⟩ rfl (λ e h=>?_)
 unfold Qis at hF
 refine sr (ga rfl (ga rfl (nil (sr (gm rfl (gb rfl (ga rfl ?_)))))))
 obtain ⟨x1,e1,hF⟩:=Qh hF
 refine RunL.name e1 ?_
 refine nil (sr (gm rfl (op (OpS.shr rfl rfl rfl rfl (by decide) ?_))))
 refine ga rfl (nil (sr (gm rfl (gb rfl (ga rfl ?_)))))
 obtain ⟨x2,e2,hF⟩:=Qh hF
 refine RunL.name e2 ?_
 refine nil (sr (gm rfl (op (OpS.shr rfl rfl rfl rfl (by decide) ?_))))
 refine ga rfl (nil (sr (gm rfl (gm rfl (gb rfl (ga rfl ?_))))))
 obtain ⟨x3,e3,hF⟩:=Qh hF
 refine RunL.name e3 ?_
 refine nil (sr (gm rfl (gm rfl (gb rfl (gm rfl (op (OpS.shr rfl rfl rfl rfl (by decide) ?_)))))))
 refine gb rfl (ga rfl ?_)
 obtain ⟨x4,e4,hF⟩:=Qh hF
 refine RunL.name e4 ?_
 refine nil (sr (gm rfl (gb rfl (ga rfl ?_))))
 obtain ⟨x5,e5,hF⟩:=Qh hF
 refine RunL.name e5 ?_
 refine nil (sr (gm rfl (op (OpS.shr rfl rfl rfl rfl (by decide) ?_))))
 refine ga rfl (nil (sr (gm rfl (gm rfl (gm rfl (gb rfl (gb rfl (ga rfl ?_))))))))
 obtain ⟨x6,e6,hF⟩:=Qh hF
 refine RunL.name e6 ?_
 refine nil (Run.slim [(12,.int .u64 x6),(13,.int .u64 (bShr .u64 x4 32)),(9,.int .u64 (bShr .u64 a1 32)),(7,.int .u64 (bShr .u64 a0 32)),(0,.int .u64 a0),(1,.int .u64 a1)] ⟨rfl,rfl,rfl,rfl,rfl,rfl,trivial⟩ ?_)
 refine sr (gm rfl (gm rfl (gb rfl (gm rfl (gb rfl (gm rfl (op (OpS.shr rfl rfl rfl rfl (by decide) ?_))))))))
 refine gb rfl (ga rfl ?_)
 obtain ⟨x7,e7,hF⟩:=Qh hF
 refine RunL.name e7 ?_
 refine nil (sr (gm rfl (gm rfl (gb rfl (ga rfl ?_)))))
 obtain ⟨x8,e8,hF⟩:=Qh hF
 refine RunL.name e8 ?_
 refine nil (Run.retP rfl (.tmp rfl (.tmp rfl .nil)) ?_)
 cases hF
 exact Post.mk' ⟨rfl,rfl,rfl,rfl⟩ (h.picks .nil) .nil
theorem Qsp {fuel:Nat} {a0:Int} {a1:Int} {y:Int×Int} (hF:Qky fuel a0 a1=some y) {w:World} :
  Spec Tryz.prog 143 [.int .u64 a0,.int .u64 a1].toArray w [] [] (λ v Γr Ωr Ωo=>v=.tuple #[.int .u64 y.1,.int .u64 y.2]∧Γr=[]∧Ωr=[]∧Ωo=[]):=by
 refine Spec.of (L:=[(0,.int .u64 a0),(1,.int .u64 a1)]) Tryz.func143 rfl ⟨rfl,rfl,trivial⟩ rfl (λ e h=>?_)
 unfold Qky at hF
 refine sr (ga rfl (ga rfl (nil (Run.seq (Run.condF rfl ?_)))))
 refine Run.skip (sr (gm rfl (gm rfl ?_)))
 obtain ⟨y1,e1,hF⟩:=Qa hF
 refine op (OpS.callP h Tryz.func202 rfl rfl rfl rfl (vs:=[.int .u64 a0,.int .u64 a1]) rfl (Qqw e1) .nil ?_)
 rintro _ w1 _ _ _ ⟨rfl,rfl,rfl,rfl⟩ h1
 have h2:=h1 rfl rfl
 simp only [ca,na] at h2
 refine gm rfl (op (OpS.ext rfl rfl rfl rfl ?_))
 refine op (OpS.ext rfl rfl rfl rfl ?_)
 refine ga rfl (ga rfl (nil (sr (gm rfl (gm rfl (ga rfl (ga rfl (nil (Run.retP rfl (.tmp rfl (.tmp rfl .nil)) ?_)))))))))
 cases hF
 exact Post.mk' ⟨rfl,rfl,rfl,rfl⟩ (h2.picks .nil) .nil
set_option maxRecDepth 20000 in
theorem Qij {fuel:Nat} {a0:List Int} {a1:Int} {y:(List Int)} (hF:Qbi fuel a0 a1=some y) {w:World} {v0:Value} :
  Spec Tryz.prog 68 [v0,.int .i64 a1].toArray w [(false,.val (Rep.slice (Rep.int .u8)) v0 a0)] [] (λ v Γr Ωr Ωo=>∃ u0:Value,v=u0∧Γr=[]∧Ωr=[(true,(.slice 5 (Rep.int .u8) u0 y))]∧Ωo=[]):=by
 refine Spec.of (L:=[(0,v0),(1,.int .i64 a1)]) Tryz.func68 rfl ⟨rfl,rfl,trivial⟩ rfl (λ e h=>?_)
 unfold Qbi at hF
 refine sr (ga rfl (nil (Run.seq (sr (gm rfl (gb rfl (nil ?_)))))))
 refine Run.ite rfl hF (λ e1 hF=>?_) (λ e1 hF=>?_)
 ·refine Run.reg ?_
  cases hF
 refine Run.skip (sr (gm rfl (op (OpS.len h Tryz.underlying24 rfl rfl rfl (V.at .z) ?_))))
 refine op (OpS.conv Tryz.underlying3 Tryz.underlying271 rfl rfl rfl ?_)
 refine gm rfl (op (OpS.conv Tryz.underlying3 Tryz.underlying271 rfl rfl rfl ?_))
 obtain ⟨y1,e2,hF⟩:=Qa hF
 refine op (OpS.callP h Tryz.func143 rfl rfl rfl rfl (vs:=[.int .u64 (IntKind.u64.wrap (a0.length:Int)),.int .u64 (IntKind.u64.wrap a1)]) rfl (Qsp e2) .nil ?_)
 rintro _ w1 _ _ _ ⟨rfl,rfl,rfl,rfl⟩ h1
 have h2:=h1 rfl rfl
 simp only [ca,na] at h2
 refine gm rfl (op (OpS.ext rfl rfl rfl rfl ?_))
 refine op (OpS.ext rfl rfl rfl rfl ?_)
 refine ga rfl (ga rfl (nil (Run.seq (sr (gm rfl (gb rfl (gm rfl ?_)))))))
 refine RunL.join (σ:=Bool) (λ s_ L_ w_=>L_=[(0,v0),(6,.int .u64 y1.2),(26,.bool s_)]∧St e w_ [(false,.val (Rep.slice (Rep.int .u8)) v0 a0)] []) hF (λ s1 _ w2 hI hF=>?_) (λ j1 hj1 hF=>?_)
 ·obtain ⟨rfl,h3⟩:=hI
  refine Run.ite rfl hF (λ e3 hF=>?_) (λ e3 hF=>?_)
  ·refine Run.reg ?_
   cases hF
  refine Run.skip (sr (gm rfl (op (OpS.conv Tryz.underlying271 Tryz.underlying3 rfl rfl rfl ?_))))
  obtain ⟨x1,e4,hF⟩:=Qa hF
  refine op (OpS.make h3 Tryz.underlying24 ti5 rfl rfl (Zr.int .u8 0) rfl rfl rfl rfl e4 (by simp) (Qhl e4) rfl (λ u1 w3 h4=>?_))
  refine ga rfl (nil (sr (gm rfl (gm rfl ?_))))
  obtain ⟨d1,e5,hF⟩:=Qh hF
  refine op (OpS.copyW (f':=false) h4 .z Tryz.underlying24 ti5 rfl rfl (V.at .z) rfl rfl rfl Pure.int e5 (λ w4 h5=>?_))
  refine ga rfl ?_
  obtain ⟨x2,e6,hF⟩:=Qh hF
  refine RunL.name e6 ?_
  refine nil (Run.seq (Run.block (Run.slim [(7,u1),(8,.int .i64 x2)] ⟨rfl,rfl,trivial⟩ ?_)))
  refine Run.loopP (σ:=(Int×(List Int))) (λ s_ L_ w_=>L_=[(7,u1),(8,.int .i64 s_.1)]∧St e w_ [] [(true,.slice 5 (Rep.int .u8) u1 s_.2)]) hF ⟨rfl,(h5.facts .nil).picks (.cons .z .nil)⟩ (λ k1 hk1 s2 _ w5 hI hF=>?_)
  obtain ⟨rfl,h6⟩:=hI
  refine Run.seq (sr (gm rfl (gm rfl (op (OpS.lenO h6 .z Tryz.underlying24 rfl rfl rfl ?_)))))
  refine gb rfl (nil ?_)
  refine Run.ite rfl hF (λ e7 hF=>?_) (λ e7 hF=>?_)
  ·refine Run.skip (Run.block ?_)
   obtain ⟨e8,hF⟩:=Qr hF
   obtain ⟨e9,hF⟩:=Qr hF
   obtain ⟨e10,hF⟩:=Qr hF
   obtain ⟨d2,e11,hF⟩:=Qh hF
   refine Run.drawV (Ωs:=[]) [.k 38 (.int .i64 s2.1),.k 39 u1,.k 40 (.int .i64 s2.1),⟨some 41,some ((Lift.part (Rep.int .u8).n u1 s2.1.toNat (s2.2.length:Int).toNat)),λ _=>[],λ ds_ u_=>[],[],[(0,[7,3])],none⟩,.k 42 u1,.k 43 (.int .i64 s2.1),⟨some 44,some ((pre u1 ((s2.1:Int).toNat))),λ _=>[],λ ds_ u_=>[],[],[(0,[7,6])],none⟩,⟨some 45,some (.int .i64 ((min ((s2.1:Int).toNat) (s2.2.length-s2.1.toNat):Nat):Int)),λ _=>[],λ ds_ u_=>[(true,.slice 5 (Rep.int .u8) u1 d2)],[0],[],none⟩] [[],[],[],[1,2],[],[],[4,5],[3,6]] [[(true,.slice 5 (Rep.int .u8) u1 s2.2)]] [1,2,3,4,5,6,7,8] Qi rfl rfl rfl h6 (.cons ?_ (.cons ?_ (.cons ?_ (.cons ?_ (.cons ?_ (.cons ?_ (.cons ?_ (.cons ?_ .nil)))))))) (λ q1 w hq1 h=>?_)
   ·intro q1 w Γx Ωx h
    refine OpS.mv rfl rfl rfl ?_
    exact du h
   ·intro q1 w Γx Ωx h
    refine OpS.mv rfl rfl rfl ?_
    exact du h
   ·intro q1 w Γx Ωx h
    refine OpS.mv rfl rfl rfl ?_
    exact du h
   ·intro q1 w Γx Ωx h
    refine OpS.partS h .z Tryz.underlying24 ty5 rfl rfl rfl rfl rfl (of_decide_eq_true e8) ?_
    exact du h
   ·intro q1 w Γx Ωx h
    refine OpS.mv rfl rfl rfl ?_
    exact du h
   ·intro q1 w Γx Ωx h
    refine OpS.mv rfl rfl rfl ?_
    exact du h
   ·intro q1 w Γx Ωx h
    refine OpS.preS h .z Tryz.underlying24 ty5 rfl rfl rfl rfl rfl (of_decide_eq_true e9).1 (of_decide_eq_true e9).2 ?_
    exact du h
   ·intro q1 w Γx Ωx h
    refine OpS.copyS h .z Tryz.underlying24 ti5 rfl rfl rfl rfl rfl (of_decide_eq_true e10).1 (of_decide_eq_true e10).2 Pure.int e11 (λ w7 h8=>?_)
    exact ⟨undef,rfl,trivial,h8⟩
   have h9:=h
   refine gb rfl (ga rfl ?_)
   obtain ⟨x3,e12,hF⟩:=Qh hF
   refine RunL.name e12 ?_
   refine nil (Run.endBlock (Run.slim [(7,u1),(8,.int .i64 x3)] ⟨rfl,rfl,trivial⟩ ?_))
   exact hk1 (x3,d2) _ _ ⟨rfl,(h9.facts .nil).picks (.cons .z .nil)⟩ hF
  refine Run.exit rfl ?_
  refine sr (gm rfl (ga rfl (nil (Run.retP rfl (.tmp rfl .nil) ?_))))
  cases hF
  exact Post.mk' ⟨u1,rfl,rfl,rfl,rfl⟩ (h6.picks (.cons .z .nil)) .nil
 refine RunL.caseb hF (λ e13 hF=>?_) (λ e13 hF=>?_)
 ·refine gp rfl (gp rfl (gk rfl (nil (Run.slim [(0,v0),(6,.int .u64 y1.2),(26,.bool true)] ⟨rfl,rfl,rfl,trivial⟩ ?_))))
  exact hj1 (true) _ _ ⟨rfl,(h2.facts (.atm .z .nil)).picks .nil⟩ hF
 refine gm rfl (gb rfl (gk rfl (nil (Run.slim [(0,v0),(6,.int .u64 y1.2),(26,.bool (decide (y1.2>9223372036854775807)))] ⟨rfl,rfl,rfl,trivial⟩ ?_))))
 exact hj1 (decide (y1.2>9223372036854775807)) _ _ ⟨rfl,(h2.facts (.atm .z .nil)).picks .nil⟩ hF
set_option maxRecDepth 20000 in
theorem Qlw {fuel:Nat} {a0:Int} {a1:Int} {y:(Option Qc)×Int} (hF:Qhb fuel a0 a1=some y) {w:World} :
  Spec Tryz.prog 13 [.int .i64 a0,.int .i64 a1].toArray w [] [] (λ v Γr Ωr Ωo=>∃ u0:Value,v=.tuple #[u0,.int .i64 y.2]∧Γr=[]∧Ωr=[(true,.opt (Qc.mem u0) u0 y.1)]∧Ωo=[]):=by
 refine Spec.of (L:=[(0,.int .i64 a0),(1,.int .i64 a1)]) Tryz.func13 rfl ⟨rfl,rfl,trivial⟩ rfl (λ e h=>?_)
 unfold Qhb at hF
 refine sr (ga rfl (ga rfl (nil (Run.seq (sr (gm rfl (gb rfl (gm rfl ?_))))))))
 refine RunL.join (σ:=Bool) (λ s_ L_ w_=>L_=[(0,.int .i64 a0),(1,.int .i64 a1),(19,.bool s_)]∧St e w_ [] []) hF (λ s1 _ w1 hI hF=>?_) (λ j1 hj1 hF=>?_)
 ·obtain ⟨rfl,h1⟩:=hI
  refine Run.ite rfl hF (λ e1 hF=>?_) (λ e1 hF=>?_)
  ·refine sr (ga rfl (ga rfl (nil ?_)))
   have h2:=St.none (Qc.mem (.pointer none)) h1
   refine Run.retP rfl (.tmp rfl (.tmp rfl .nil)) ?_
   cases hF
   exact Post.mk' ⟨(.pointer none),rfl,rfl,rfl,rfl⟩ (h2.picks (.cons .z .nil)) .nil
  refine Run.skip (Run.seq ?_)
  obtain ⟨y1,e2,hF⟩:=Qa hF
  obtain ⟨x1,e3,hF⟩:=Qa hF
  refine Run.drawV (Ωs:=[]) [.k 20 (.int .i64 a1),.f 21 (λ u_=>[(true,.val (Rep.slice (Rep.int .u8)) u_ ([255]))]),.k 22 (.int .i64 a0),.k 23 (.int .i64 a1),.k 24 (.int .i64 (IntKind.i64.wrap (a0*a1))),⟨some 25,none,λ u_=>[],λ ds_ u_=>[(true,.slice 5 (Rep.int .u8) u_ y1)],[],[],none⟩,.k 26 (.int .i64 a0),⟨some 27,none,λ u_=>[],λ ds_ u_=>[(true,.slice 3 (Rep.int .i64) u_ x1)],[],[],none⟩] [[],[],[],[],[2,3],[1,4],[],[6]] [] [0,1,2,3,4,5,6,7] Qi rfl rfl rfl h1 (.cons ?_ (.cons ?_ (.cons ?_ (.cons ?_ (.cons ?_ (.cons ?_ (.cons ?_ (.cons ?_ .nil)))))))) (λ q1 w hq1 h=>?_)
  ·intro q1 w Γx Ωx h
   refine OpS.mv rfl rfl rfl ?_
   exact du h
  ·intro q1 w Γx Ωx h
   refine OpS.lit (r:=(Rep.int .u8)) (f:=true) h Tryz.underlying24 ti5 rfl rfl rfl rfl rfl (.cons rfl V.int .nil) rfl rfl (λ u w5 h7=>?_)
   exact ⟨u,rfl,trivial,h7⟩
  ·intro q1 w Γx Ωx h
   refine OpS.mv rfl rfl rfl ?_
   exact du h
  ·intro q1 w Γx Ωx h
   refine OpS.mv rfl rfl rfl ?_
   exact du h
  ·intro q1 w Γx Ωx h
   refine OpS.bin rfl rfl rfl rfl rfl ?_
   exact du h
  ·intro q1 w Γx Ωx h
   refine OpS.callP h Tryz.func68 rfl rfl rfl rfl (vs:=[(q1 1),.int .i64 (IntKind.i64.wrap (a0*a1))]) rfl (Qij e2) (.cons (f:=true) (V.at .z) .nil) ?_
   rintro u w6 _ _ _ ⟨_,rfl,rfl,rfl,rfl⟩ h8
   have h9:=h8 rfl rfl
   simp only [ca,na] at h9
   exact ⟨u,rfl,trivial,h9⟩
  ·intro q1 w Γx Ωx h
   refine OpS.mv rfl rfl rfl ?_
   exact du h
  ·intro q1 w Γx Ωx h
   refine OpS.make h Tryz.underlying22 ti3 rfl rfl (Zr.int .i64 0) rfl rfl rfl rfl e3 (by simp) (Qhl e3) rfl (λ u w7 h10=>?_)
   exact ⟨u,rfl,trivial,h10⟩
  have h11:=h
  refine op (OpS.buildC (f:=true) (r:=Qc.rep) (x:=Qc.z) (r':=(Qc.repW (q1 5) (q1 7))) (x':=(⟨a1,[],[],0,0,0,false⟩:Qc)) h11 pl166 ti166 Qc.zr rfl rfl rfl (.cons (Rep.int .i64) Qc.rep Qc.rep Qc.z (⟨a1,[],[],0,0,0,false⟩:Qc) (Chg.iso _ (Chg.here (Chg.id (by rfl)))) rfl rfl V.int (.cons (Rep.raw (q1 5)) Qc.rep (Rep.iso (λ s:Qc=>(s.size,s.bytes,s.wear,s.steps,s.left,s.torn,s.down,())) (Rep.prod (Rep.int .i64) (Rep.prod (Rep.raw (α:=List Int) (q1 5)) (Rep.prod (Rep.slice (Rep.int .i64)) (Rep.prod (Rep.int .i64) (Rep.prod (Rep.int .i64) (Rep.prod (Rep.int .u8) (Rep.prod Rep.bool Rep.unit)))))))) (⟨a1,[],[],0,0,0,false⟩:Qc) (⟨a1,[],[],0,0,0,false⟩:Qc) (Chg.iso _ (Chg.there (Chg.here (Chg.id (by rfl))))) rfl rfl (V.raw (f:=true) (St.own1 h11 .z) []) (.cons (Rep.raw (q1 7)) (Rep.iso (λ s:Qc=>(s.size,s.bytes,s.wear,s.steps,s.left,s.torn,s.down,())) (Rep.prod (Rep.int .i64) (Rep.prod (Rep.raw (α:=List Int) (q1 5)) (Rep.prod (Rep.slice (Rep.int .i64)) (Rep.prod (Rep.int .i64) (Rep.prod (Rep.int .i64) (Rep.prod (Rep.int .u8) (Rep.prod Rep.bool Rep.unit)))))))) (Qc.repW (q1 5) (q1 7)) (⟨a1,[],[],0,0,0,false⟩:Qc) (⟨a1,[],[],0,0,0,false⟩:Qc) (Chg.iso _ (Chg.there (Chg.there (Chg.here (Chg.id (by rfl)))))) rfl rfl (V.raw (f:=true) (St.own1 h11 (.s .z)) []) .nil))) (λ u1 h12=>?_))
  refine op (OpS.box (f':=true) h12 rfl rfl rfl (V.at .z) (λ u2 w8 h13=>?_))
  refine ga rfl (ga rfl (nil ?_))
  have h14:=St.boxJ (r':=(Qc.repW (q1 5) (q1 7))) (x':=(⟨a1,y1,x1,0,0,0,false⟩:Qc)) (h13.pick .z) (λ _ _ hs_=>(Jn.iso _ (Jn.prod Jn.refl (Jn.prod Jn.same (Jn.prod Jn.same Jn.refl)))))
  have h15:=h14.front (.cons (.s .z) (.cons (.s .z) (.cons .z .nil)))
  have h16:=St.sep h15
  have h17:=St.sep (h16.pick (.s .z))
  have h18:=St.ex (H:=λ w1_=>.sep (.box 166 (Qc.repW (q1 5) w1_) u2 (⟨a1,y1,x1,0,0,0,false⟩:Qc)) (.sep (.slice 5 (Rep.int .u8) (q1 5) y1) (.slice 3 (Rep.int .i64) w1_ x1))) (q1 7) h17
  have h19:=St.ex (H:=λ w0_=>.ex λ w1_=>.sep (.box 166 (Qc.repW w0_ w1_) u2 (⟨a1,y1,x1,0,0,0,false⟩:Qc)) (.sep (.slice 5 (Rep.int .u8) w0_ y1) (.slice 3 (Rep.int .i64) w1_ x1))) (q1 5) h18
  have h20:=St.some (H:=(Qc.mem u2)) (q:=u2) (x:=(⟨a1,y1,x1,0,0,0,false⟩:Qc)) h19
  refine Run.retP rfl (.tmp rfl (.tmp rfl .nil)) ?_
  cases hF
  exact Post.mk' ⟨u2,rfl,rfl,rfl,rfl⟩ (h20.picks (.cons .z .nil)) .nil
 refine RunL.caseb hF (λ e4 hF=>?_) (λ e4 hF=>?_)
 ·refine gp rfl (gp rfl (gk rfl (gm rfl (gp rfl (gp rfl (gk rfl (gm rfl (gp rfl (gp rfl (gk rfl (nil (Run.slim [(0,.int .i64 a0),(1,.int .i64 a1),(19,.bool true)] ⟨rfl,rfl,rfl,trivial⟩ ?_))))))))))))
  exact hj1 (true) _ _ ⟨rfl,(h.facts .nil).picks .nil⟩ hF
 refine gm rfl (gb rfl (gk rfl (gm rfl ?_)))
 refine RunL.caseb hF (λ e5 hF=>?_) (λ e5 hF=>?_)
 ·refine gp rfl (gp rfl (gk rfl (gm rfl (gp rfl (gp rfl (gk rfl (nil (Run.slim [(0,.int .i64 a0),(1,.int .i64 a1),(19,.bool true)] ⟨rfl,rfl,rfl,trivial⟩ ?_))))))))
  exact hj1 (true) _ _ ⟨rfl,(h.facts .nil).picks .nil⟩ hF
 refine gm rfl (gb rfl (gk rfl (gm rfl ?_)))
 refine RunL.caseb hF (λ e6 hF=>?_) (λ e6 hF=>?_)
 ·refine gp rfl (gp rfl (gk rfl (nil (Run.slim [(0,.int .i64 a0),(1,.int .i64 a1),(19,.bool true)] ⟨rfl,rfl,rfl,trivial⟩ ?_))))
  exact hj1 (true) _ _ ⟨rfl,(h.facts .nil).picks .nil⟩ hF
 refine gm rfl (gb rfl (gk rfl (nil (Run.slim [(0,.int .i64 a0),(1,.int .i64 a1),(19,.bool (decide (a1>1024)))] ⟨rfl,rfl,rfl,trivial⟩ ?_))))
 exact hj1 (decide (a1>1024)) _ _ ⟨rfl,(h.facts .nil).picks .nil⟩ hF
theorem Qgf {fuel:Nat} {a0:Qc} {y:Int} (hF:Qbe fuel a0=some y) {w:World} {v0 v0_0 v0_1:Value} :
  Spec Tryz.prog 69 [v0].toArray w [] [(false,.box 166 (Qc.repW v0_0 v0_1) v0 a0),(false,.slice 5 (Rep.int .u8) v0_0 a0.bytes),(false,.slice 3 (Rep.int .i64) v0_1 a0.wear)] (λ v Γr Ωr Ωo=>v=.int .i64 y∧Γr=[]∧Ωr=[]∧Ωo=[(false,.box 166 (Qc.repW v0_0 v0_1) v0 a0),(false,(.slice 5 (Rep.int .u8) v0_0 a0.bytes)),(false,(.slice 3 (Rep.int .i64) v0_1 a0.wear))]):=by
 refine Spec.of (L:=[(0,v0)]) Tryz.func69 rfl ⟨rfl,trivial⟩ rfl (λ e h=>?_)
 unfold Qbe at hF
 refine sr (ga rfl (nil (sr (gm rfl (op (OpS.nchk h .z rfl rfl rfl ?_))))))
 refine op (OpS.fbox (o3:=2) h .z PA.z Qpr rfl rfl rfl rfl ?_)
 refine op (OpS.loadR h .z PA.a (GetS.ok (GetS.iso _ (GetS.there (GetS.there (GetS.here GetS.id))))) ty22 rfl rfl rfl rfl rfl ?_)
 refine op (OpS.lenO h (.s (.s .z)) Tryz.underlying22 rfl rfl rfl ?_)
 refine ga rfl (nil (Run.retP rfl (.tmp rfl .nil) ?_))
 cases hF
 exact Post.mk' ⟨rfl,rfl,rfl,rfl⟩ (h.picks (.cons .z (.cons .z (.cons .z .nil)))) .nil
theorem Qbf {fuel:Nat} {a0:Qc} {y:Int} (hF:Qw fuel a0=some y) {w:World} {v0 v0_0 v0_1:Value} :
  Spec Tryz.prog 71 [v0].toArray w [] [(false,.box 166 (Qc.repW v0_0 v0_1) v0 a0),(false,.slice 5 (Rep.int .u8) v0_0 a0.bytes),(false,.slice 3 (Rep.int .i64) v0_1 a0.wear)] (λ v Γr Ωr Ωo=>v=.int .i64 y∧Γr=[]∧Ωr=[]∧Ωo=[(false,.box 166 (Qc.repW v0_0 v0_1) v0 a0),(false,(.slice 5 (Rep.int .u8) v0_0 a0.bytes)),(false,(.slice 3 (Rep.int .i64) v0_1 a0.wear))]):=by
 refine Spec.of (L:=[(0,v0)]) Tryz.func71 rfl ⟨rfl,trivial⟩ rfl (λ e h=>?_)
 unfold Qw at hF
 refine sr (ga rfl (nil (sr (gm rfl (op (OpS.nchk h .z rfl rfl rfl ?_))))))
 refine op (OpS.fbox (o3:=0) h .z PA.z Qpp rfl rfl rfl rfl ?_)
 refine op (OpS.loadBi h .z PA.a (GetS.ok (GetS.iso _ (GetS.here GetS.id))) ty3 rfl rfl rfl ?_)
 refine ga rfl (nil (Run.retP rfl (.tmp rfl .nil) ?_))
 cases hF
 exact Post.mk' ⟨rfl,rfl,rfl,rfl⟩ (h.picks (.cons .z (.cons .z (.cons .z .nil)))) .nil
theorem Qgk {fuel:Nat} {a0:Qc} {a1:Int} {a2:Int} {y:Bool} (hF:Qbn fuel a0 a1 a2=some y) {w:World} {v0 v0_0 v0_1:Value} :
  Spec Tryz.prog 144 [v0,.int .i64 a1,.int .i64 a2].toArray w [] [(false,.box 166 (Qc.repW v0_0 v0_1) v0 a0),(false,.slice 5 (Rep.int .u8) v0_0 a0.bytes),(false,.slice 3 (Rep.int .i64) v0_1 a0.wear)] (λ v Γr Ωr Ωo=>v=.bool y∧Γr=[]∧Ωr=[]∧Ωo=[(false,.box 166 (Qc.repW v0_0 v0_1) v0 a0),(false,(.slice 5 (Rep.int .u8) v0_0 a0.bytes)),(false,(.slice 3 (Rep.int .i64) v0_1 a0.wear))]):=by
 refine Spec.of (L:=[(0,v0),(1,.int .i64 a1),(2,.int .i64 a2)]) Tryz.func144 rfl ⟨rfl,rfl,rfl,trivial⟩ rfl (λ e h=>?_)
 unfold Qbn at hF
 refine sr (ga rfl (nil (sr (gm rfl (gb rfl (gm rfl ?_))))))
 refine RunL.caseb hF (λ e1 hF=>?_) (λ e1 hF=>?_)
 ·refine gm rfl (gm rfl (op (OpS.nchk h .z rfl rfl rfl ?_)))
  refine op (OpS.fbox (o3:=1) h .z PA.z Qiw rfl rfl rfl rfl ?_)
  refine op (OpS.loadR h .z PA.a (GetS.ok (GetS.iso _ (GetS.there (GetS.here GetS.id)))) ty24 rfl rfl rfl rfl rfl ?_)
  refine op (OpS.lenO h (.s .z) Tryz.underlying24 rfl rfl rfl ?_)
  refine gb rfl (gk rfl (gm rfl ?_))
  refine RunL.caseb hF (λ e2 hF=>?_) (λ e2 hF=>?_)
  ·refine gm rfl (gb rfl (gk rfl (gm rfl ?_)))
   refine RunL.caseb hF (λ e3 hF=>?_) (λ e3 hF=>?_)
   ·refine gm rfl (gm rfl (op (OpS.nchk h .z rfl rfl rfl ?_)))
    refine op (OpS.fbox (o3:=1) h .z PA.z Qiw rfl rfl rfl rfl ?_)
    refine op (OpS.loadR h .z PA.a (GetS.ok (GetS.iso _ (GetS.there (GetS.here GetS.id)))) ty24 rfl rfl rfl rfl rfl ?_)
    refine op (OpS.lenO h (.s .z) Tryz.underlying24 rfl rfl rfl ?_)
    refine gm rfl (gb rfl (gb rfl (gk rfl (ga rfl ?_))))
    obtain ⟨x1,e4,hF⟩:=Qh hF
    refine RunL.nameb e4 ?_
    refine nil (Run.retP rfl (.tmp rfl .nil) ?_)
    cases hF
    exact Post.mk' ⟨rfl,rfl,rfl,rfl⟩ (h.picks (.cons .z (.cons .z (.cons .z .nil)))) .nil
   refine gp rfl (gp rfl (gp rfl (gp rfl (gp rfl (gp rfl (gp rfl (gp rfl (gp rfl (gk rfl (ga rfl (nil (Run.retP rfl (.tmp rfl .nil) ?_))))))))))))
   cases hF
   exact Post.mk' ⟨rfl,rfl,rfl,rfl⟩ (h.picks (.cons .z (.cons .z (.cons .z .nil)))) .nil
  refine gp rfl (gp rfl (gk rfl (gm rfl (gp rfl (gp rfl (gp rfl (gp rfl (gp rfl (gp rfl (gp rfl (gp rfl (gp rfl (gk rfl (ga rfl (nil (Run.retP rfl (.tmp rfl .nil) ?_))))))))))))))))
  cases hF
  exact Post.mk' ⟨rfl,rfl,rfl,rfl⟩ (h.picks (.cons .z (.cons .z (.cons .z .nil)))) .nil
 refine gp rfl (gp rfl (gp rfl (gp rfl (gp rfl (gp rfl (gp rfl (gk rfl (gm rfl (gp rfl (gp rfl (gk rfl (gm rfl (gp rfl (gp rfl (gp rfl (gp rfl ?_))))))))))))))))
 refine gp rfl (gp rfl (gp rfl (gp rfl (gp rfl (gk rfl (ga rfl (nil (Run.retP rfl (.tmp rfl .nil) ?_))))))))
 cases hF
 exact Post.mk' ⟨rfl,rfl,rfl,rfl⟩ (h.picks (.cons .z (.cons .z (.cons .z .nil)))) .nil
theorem Qfp {fuel:Nat} {a0:List Int} {y:(List Int)} (hF:Qaw fuel a0=some y) {w:World} {v0:Value} :
  Spec Tryz.prog 113 [v0].toArray w [(false,.val (Rep.slice (Rep.int .u8)) v0 a0)] [] (λ v Γr Ωr Ωo=>∃ u0:Value,v=u0∧Γr=[]∧Ωr=[(true,(.slice 5 (Rep.int .u8) u0 y))]∧Ωo=[]):=by
 refine Spec.of (L:=[(0,v0)]) Tryz.func113 rfl ⟨rfl,trivial⟩ rfl (λ e h=>?_)
 unfold Qaw at hF
 refine sr (ga rfl (nil (Run.seq (sr (gm rfl (op (OpS.snil h Tryz.underlying24 rfl rfl rfl (V.at .z) (λ b1 hb1=>?_))))))))
 refine nil ?_
 cases b1
 ·refine Run.condF rfl ?_
  refine Run.skip (sr (op (OpS.litO (r:=(Rep.int .u8)) (f:=true) h Tryz.underlying24 ti5 rfl rfl rfl rfl rfl .nil rfl rfl (λ u1 w1 h1=>?_))))
  refine gm rfl ?_
  obtain ⟨x1,e1,hF⟩:=Qa hF
  refine op (OpS.app (f':=false) h1 .z Tryz.underlying24 ti5 rfl rfl rfl rfl rfl rfl rfl (V.at .z) (.inr Pure.int) e1 (λ u2 w2 h2=>?_))
  refine ga rfl (nil (Run.retP rfl (.tmp rfl .nil) ?_))
  cases hF
  exact Post.mk' ⟨u2,rfl,rfl,rfl,rfl⟩ (h2.picks (.cons .z .nil)) .nil
 obtain rfl:=hb1 rfl
 have hF:some ([]:List Int)=some y:=by simpa [bindP,app] using hF
 refine Run.condT rfl ?_
 refine sr (ga rfl (nil ?_))
 have h3:=St.nil 5 (Rep.int .u8) h
 refine Run.retP rfl (.tmp rfl .nil) ?_
 cases hF
 exact Post.mk' ⟨(.slice none 0 0),rfl,rfl,rfl,rfl⟩ (h3.picks (.cons .z .nil)) .nil
theorem Qhc {fuel:Nat} {a0:Qc} {a1:Int} {a2:Int} {y:(List Int)×Int} (hF:Qcj fuel a0 a1 a2=some y) {w:World} {v0 v0_0 v0_1:Value} :
  Spec Tryz.prog 70 [v0,.int .i64 a1,.int .i64 a2].toArray w [] [(false,.box 166 (Qc.repW v0_0 v0_1) v0 a0),(false,.slice 5 (Rep.int .u8) v0_0 a0.bytes),(false,.slice 3 (Rep.int .i64) v0_1 a0.wear)] (λ v Γr Ωr Ωo=>∃ u0:Value,v=.tuple #[u0,.int .i64 y.2]∧Γr=[]∧Ωr=[(true,(.slice 5 (Rep.int .u8) u0 y.1))]∧Ωo=[(false,.box 166 (Qc.repW v0_0 v0_1) v0 a0),(false,(.slice 5 (Rep.int .u8) v0_0 a0.bytes)),(false,(.slice 3 (Rep.int .i64) v0_1 a0.wear))]):=by
 refine Spec.of (L:=[(0,v0),(1,.int .i64 a1),(2,.int .i64 a2)]) Tryz.func70 rfl ⟨rfl,rfl,rfl,trivial⟩ rfl (λ e h=>?_)
 unfold Qcj at hF
 refine sr (ga rfl (ga rfl (nil (Run.seq (Run.block (sr (gm rfl (op (OpS.nchk h .z rfl rfl rfl ?_)))))))))
 refine op (OpS.fbox (o3:=6) h .z PA.z Qgc rfl rfl rfl rfl ?_)
 refine op (OpS.loadBb h .z PA.a (GetS.ok (GetS.iso _ (GetS.there (GetS.there (GetS.there (GetS.there (GetS.there (GetS.there (GetS.here GetS.id))))))))) ty4 rfl rfl rfl ?_)
 refine ga rfl (nil ?_)
 refine Run.ite rfl hF (λ e1 hF=>?_) (λ e1 hF=>?_)
 ·refine sr (ga rfl (ga rfl (nil ?_)))
  have h1:=St.nil 5 (Rep.int .u8) h
  refine Run.retP rfl (.tmp rfl (.tmp rfl .nil)) ?_
  cases hF
  exact Post.mk' ⟨(.slice none 0 0),rfl,rfl,rfl,rfl⟩ (h1.picks (.cons .z (.cons .z (.cons .z (.cons .z .nil))))) .nil
 refine sr (gm rfl (gm rfl (gm rfl ?_)))
 obtain ⟨y1,e2,hF⟩:=Qa hF
 have h2:=h.front (.cons .z (.cons .z (.cons .z .nil)))
 refine op (OpS.callO h2 Tryz.func144 rfl rfl rfl rfl (vs:=[v0,.int .i64 a1,.int .i64 a2]) rfl (Qgk e2) rfl .nil ?_)
 rintro _ w1 _ _ _ ⟨rfl,rfl,rfl,rfl⟩ h3
 have h4:=h3
 simp only [ca,na] at h4
 refine op (OpS.not rfl rfl rfl ?_)
 refine ga rfl ?_
 obtain ⟨x1,e3,hF⟩:=Qh hF
 refine RunL.nameb e3 ?_
 refine nil ?_
 refine Run.ite rfl hF (λ e4 hF=>?_) (λ e4 hF=>?_)
 ·refine sr (ga rfl (ga rfl (nil ?_)))
  have h5:=St.nil 5 (Rep.int .u8) h4
  refine Run.retP rfl (.tmp rfl (.tmp rfl .nil)) ?_
  cases hF
  exact Post.mk' ⟨(.slice none 0 0),rfl,rfl,rfl,rfl⟩ (h5.picks (.cons .z (.cons .z (.cons .z (.cons .z .nil))))) .nil
 refine Run.skip (Run.endBlock (sr (gm rfl (op (OpS.nchk h4 .z rfl rfl rfl ?_)))))
 refine op (OpS.fbox (o3:=1) h4 .z PA.z Qiw rfl rfl rfl rfl ?_)
 refine op (OpS.loadR h4 .z PA.a (GetS.ok (GetS.iso _ (GetS.there (GetS.here GetS.id)))) ty24 rfl rfl rfl rfl rfl ?_)
 refine gm rfl (gm rfl (gm rfl (gb rfl ?_)))
 obtain ⟨e5,hF⟩:=Qr hF
 refine op (OpS.partS h4 (.s .z) Tryz.underlying24 ty5 rfl rfl rfl rfl rfl (of_decide_eq_true e5) ?_)
 obtain ⟨x2,e6,hF⟩:=Qa hF
 obtain ⟨y2,e7,hF⟩:=Qa hF
 refine op (OpS.callP h4 Tryz.func113 rfl rfl rfl rfl (vs:=[(Lift.part (Rep.int .u8).n v0_0 (a1:Int).toNat ((IntKind.i64.wrap (a1+a2)):Int).toNat)]) rfl (Qfp e7) (Args.part (.s .z) e6 .nil) ?_)
 rintro u1 w2 _ _ _ ⟨_,rfl,rfl,rfl,rfl⟩ h6
 have h7:=h6 rfl rfl
 simp only [ca,na] at h7
 refine ga rfl (ga rfl (nil (Run.retP rfl (.tmp rfl (.tmp rfl .nil)) ?_)))
 cases hF
 exact Post.mk' ⟨u1,rfl,rfl,rfl,rfl⟩ (h7.picks (.cons .z (.cons .z (.cons .z (.cons .z .nil))))) .nil
end Lift
