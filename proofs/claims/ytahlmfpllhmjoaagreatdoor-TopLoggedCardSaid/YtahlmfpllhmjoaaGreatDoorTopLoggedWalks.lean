import Derived.Test.YtahlmfpllhmjoaaGreatDoorTopLoggedWalksD
set_option linter.unusedVariables false
set_option linter.unusedSimpArgs false
namespace Lift
open Go Go.Proofs
open RunL (op sr nil gm ga gb gp gk dp du)
abbrev Gqs:Bool×Atom:=(false,.ptr (Rep.arr 6 (Rep.int .u8)) (.pointer (some ⟨0,0,none⟩)) ([0,2,4,7,9,11]))
theorem Qkc {fuel:Nat} {a0:Sensor_} {a1:Event_} {y:Bool} (hF:Qdx fuel a0 a1=some y) {w:World} {v0 v1:Value} :
  Spec Tryz.prog 92 [v0,v1].toArray w [(false,.val Sensor_.rep v0 a0),(false,.ptr Event_.rep v1 a1)] [] (λ v Γr Ωr Ωo=>v=.bool y∧Γr=[]∧Ωr=[]∧Ωo=[]):=by
 refine Spec.of (L:=[(0,v0),(1,v1)]) Tryz.func92 rfl ⟨rfl,rfl,trivial⟩ rfl (λ e h=>?_)
 unfold Qdx at hF
 refine sr (op (OpS.boxF h rfl rfl rfl (V.at .z) (λ u1 w1 h1=>?_)))
 refine ga rfl (nil (sr (op (OpS.fbox (o3:=0) h1 .z PA.z Qnr rfl rfl rfl rfl ?_))))
 refine op (OpS.loadBi h1 .z PA.a (Get.fld Sensor_.f0) ty5 rfl rfl rfl ?_)
 refine op (OpS.fptr h1 Qvb Event_.f4 rfl rfl rfl (.s .z) (λ u2 h2=>?_))
 refine op (OpS.loadi h2 ty5 rfl rfl rfl .z ?_)
 refine gb rfl (ga rfl ?_)
 obtain ⟨x1,e1,hF⟩:=Qh hF
 refine RunL.nameb e1 ?_
 refine nil (Run.retP rfl (.tmp rfl .nil) ?_)
 cases hF
 exact Post.mk' ⟨rfl,rfl,rfl,rfl⟩ (h2.picks .nil) .nil
theorem Qcn {fuel:Nat} {a0:List Sensor_} {a1_0:Event_} {y:Int} (hF:Qq fuel a0 a1_0=some y) {w:World} {v0 v1_0:Value} :
  Spec Tryz.prog 91 [v0,.func (.func 92) #[] #[v1_0]].toArray w [(false,.val (Rep.slice Sensor_.rep) v0 a0),(false,.ptr Event_.rep v1_0 a1_0)] [] (λ v Γr Ωr Ωo=>v=.int .i64 y∧Γr=[]∧Ωr=[]∧Ωo=[]):=by
 refine Spec.of (L:=[(0,v0),(1,.func (.func 92) #[] #[v1_0])]) Tryz.func91 rfl ⟨rfl,rfl,trivial⟩ rfl (λ e h=>?_)
 unfold Qq at hF
 refine sr (ga rfl (nil (Run.seq (sr (gm rfl (op (OpS.len h Tryz.underlying27 rfl rfl rfl (V.at .z) ?_)))))))
 refine gm rfl (nil (Run.block (Run.slim [(0,v0),(1,.func (.func 92) #[] #[v1_0]),(7,.int .i64 (a0.length:Int)),(8,.int .i64 0)] ⟨rfl,rfl,rfl,rfl,trivial⟩ ?_)))
 refine Run.loopP (σ:=Int) (λ s_ L_ w_=>L_=[(0,v0),(1,.func (.func 92) #[] #[v1_0]),(7,.int .i64 (a0.length:Int)),(8,.int .i64 s_)]∧St e w_ [(false,.val (Rep.slice Sensor_.rep) v0 a0),(false,.ptr Event_.rep v1_0 a1_0)] []) hF ⟨rfl,(h.facts (.atm .z (.atm (.s .z) .nil))).picks .nil⟩ (λ k1 hk1 s1 _ w1 hI hF=>?_)
 obtain ⟨rfl,h1⟩:=hI
 refine sr (gb rfl (nil (Run.seq ?_)))
 refine Run.ite rfl hF (λ e1 hF=>?_) (λ e1 hF=>?_)
 ·refine Run.skip (Run.seq (Run.block (sr (gm rfl (ga rfl (nil (sr (gm rfl (gm rfl (gm rfl ?_))))))))))
  obtain ⟨x1,e2,hF⟩:=Qa hF
  refine op (OpS.iptr h1 Tryz.underlying27 ty74 rfl rfl rfl rfl (V.at .z) e2 (λ u1 h2=>?_))
  refine op (OpS.load h2 ty74 rfl rfl rfl .z (λ u2 h3=>?_))
  obtain ⟨y1,e3,hF⟩:=Qa hF
  refine op (OpS.callPF (fl:=[]) (cl:=[v1_0]) h3 Tryz.func92 rfl rfl rfl rfl rfl (vs:=[u2]) rfl (Qkc e3) (.cons (f:=false) (V.at .z) (.ptr (.s (.s (.s .z))) .nil)) ?_)
  rintro _ w2 _ _ _ ⟨rfl,rfl,rfl,rfl⟩ h4
  have h5:=h4 rfl rfl
  simp only [ca,na] at h5
  refine nil ?_
  refine Run.ite rfl hF (λ e4 hF=>?_) (λ e4 hF=>?_)
  ·refine sr (gm rfl (ga rfl (nil (Run.retP rfl (.tmp rfl .nil) ?_))))
   cases hF
   exact Post.mk' ⟨rfl,rfl,rfl,rfl⟩ (h5.picks .nil) .nil
  refine Run.skip (Run.endBlock (Run.reg (gb rfl (gm rfl (nil (Run.slim [(0,v0),(1,.func (.func 92) #[] #[v1_0]),(7,.int .i64 (a0.length:Int)),(8,.int .i64 (IntKind.i64.wrap (s1+1)))] ⟨rfl,rfl,rfl,rfl,trivial⟩ ?_))))))
  exact hk1 ((IntKind.i64.wrap (s1+1))) _ _ ⟨rfl,(h5.facts (.atm (.s (.s .z)) (.atm (.s (.s (.s .z))) .nil))).picks .nil⟩ hF
 refine Run.exit rfl ?_
 refine sr (ga rfl (nil (Run.retP rfl (.tmp rfl .nil) ?_)))
 cases hF
 exact Post.mk' ⟨rfl,rfl,rfl,rfl⟩ (h1.picks .nil) .nil
set_option maxHeartbeats 8000000 in set_option maxRecDepth 20000 in
theorem Qie {fuel:Nat} {a0:List Sensor_} {a1:List Event_} {y:(List Int)×Int} (hF:Qcy fuel a0 a1=some y) {w:World} {v0 v1:Value} :
  Spec Tryz.prog 27 [v0,v1].toArray w [(false,.val (Rep.slice Sensor_.rep) v0 a0),(false,.val (Rep.slice Event_.rep) v1 a1),Gqs] [] (λ v Γr Ωr Ωo=>∃ u0:Value,v=.tuple #[u0,.int .i64 y.2]∧Γr=[]∧Ωr=[(true,(.slice 49 (Rep.int .u16) u0 y.1))]∧Ωo=[]):=by
 refine Spec.of (L:=[(0,v0),(1,v1)]) Tryz.func27 rfl ⟨rfl,rfl,trivial⟩ rfl (λ e h=>?_)
 unfold Qcy at hF
 refine sr (ga rfl (ga rfl (nil (Run.seq (sr (gm rfl ?_))))))
 obtain ⟨y1,e1,hF⟩:=Qa hF
 refine op (OpS.callP h Tryz.func90 rfl rfl rfl rfl (vs:=[v0]) rfl (Qjk e1) (.cons (f:=false) (V.at .z) .nil) ?_)
 rintro _ w1 _ _ _ ⟨rfl,rfl,rfl,rfl⟩ h1
 have h2:=h1 rfl rfl
 simp only [ca,na] at h2
 refine ga rfl (nil (sr (gm rfl (gb rfl (nil ?_)))))
 refine Run.ite rfl hF (λ e2 hF=>?_) (λ e2 hF=>?_)
 ·refine sr (gm rfl (ga rfl (ga rfl (nil ?_))))
  have h3:=St.nil 49 (Rep.int .u16) h2
  refine Run.retP rfl (.tmp rfl (.tmp rfl .nil)) ?_
  cases hF
  exact Post.mk' ⟨(.slice none 0 0),rfl,rfl,rfl,rfl⟩ (h3.picks (.cons .z .nil)) .nil
 refine Run.skip (sr (gm rfl (op (OpS.len h2 Tryz.underlying27 rfl rfl rfl (V.at .z) ?_))))
 obtain ⟨x1,e3,hF⟩:=Qa hF
 refine op (OpS.make h2 Tryz.underlying60 ti49 rfl rfl (Zr.int .u16 0) rfl rfl rfl rfl e3 (by simp) (Qhl e3) rfl (λ u1 w2 h4=>?_))
 refine ga rfl (nil (Run.seq (sr (gm rfl (op (OpS.len h4 Tryz.underlying40 rfl rfl rfl (V.at (.s .z)) ?_))))))
 refine gm rfl (nil (Run.block (Run.slim [(0,v0),(7,u1),(22,v1),(23,.int .i64 (a1.length:Int)),(24,.int .i64 0)] ⟨rfl,rfl,rfl,rfl,rfl,trivial⟩ ?_)))
 refine Run.loopP (σ:=(Int×(List Int))) (λ s_ L_ w_=>L_=[(0,v0),(7,u1),(22,v1),(23,.int .i64 (a1.length:Int)),(24,.int .i64 s_.1)]∧St e w_ [(false,.val (Rep.slice Sensor_.rep) v0 a0),(false,.val (Rep.slice Event_.rep) v1 a1),Gqs] [(true,.slice 49 (Rep.int .u16) u1 s_.2)]) hF ⟨rfl,(h4.facts (.atm .z (.atm (.s .z) (.atm (.s (.s .z)) .nil)))).picks (.cons .z .nil)⟩ (λ k1 hk1 s1 _ w3 hI hF=>?_)
 obtain ⟨rfl,h5⟩:=hI
 refine sr (gb rfl (nil (Run.seq ?_)))
 refine Run.ite rfl hF (λ e4 hF=>?_) (λ e4 hF=>?_)
 ·refine Run.skip (Run.seq (Run.block (sr ?_)))
  obtain ⟨x2,e5,hF⟩:=Qa hF
  refine op (OpS.iptr h5 Tryz.underlying40 ty55 rfl rfl rfl rfl (V.at (.s .z)) e5 (λ u2 h6=>?_))
  refine op (OpS.load h6 ty55 rfl rfl rfl .z (λ u3 h7=>?_))
  refine op (OpS.alloc h7 ti55 Event_.zr rfl rfl (λ u4 w4 h8=>?_))
  have h9:=(h8.pick .z).weak
  refine op (OpS.storeB (f':=false) h9 .z PA.z Put.id ty55 rfl rfl rfl (V.at .z) (.inr rfl) (λ w5 h10=>?_))
  refine nil (sr (op (OpS.loadB h10 .z PA.z Get.id ty55 rfl rfl rfl (λ u5 h11=>?_))))
  obtain ⟨y2,e6,hF⟩:=Qa hF
  refine op (OpS.callP h11 Tryz.func38 rfl rfl rfl rfl (vs:=[u5]) rfl (Qni e6) (.cons (f:=false) (V.at .z) (.ptr (.s (.s (.s (.s (.s .z))))) .nil)) ?_)
  rintro _ w6 _ _ _ ⟨rfl,rfl,rfl,rfl⟩ h12
  have h13:=h12 rfl rfl
  simp only [ca,na] at h13
  refine gm rfl (op (OpS.ext rfl rfl rfl rfl ?_))
  refine op (OpS.ext rfl rfl rfl rfl ?_)
  refine op (OpS.ext rfl rfl rfl rfl ?_)
  refine ga rfl (ga rfl (ga rfl (nil (sr (gm rfl (op (OpS.mkf (fl:=[]) (cl:=[u4]) rfl rfl rfl rfl ?_)))))))
  obtain ⟨y3,e7,hF⟩:=Qa hF
  refine op (OpS.callP h13 Tryz.func91 rfl rfl rfl rfl (vs:=[v0,.func (.func 92) #[] #[u4]]) rfl (Qcn e7) (.cons (f:=false) (V.at (.s (.s (.s .z)))) (.box .z .nil)) ?_)
  rintro _ w7 _ _ _ ⟨rfl,rfl,rfl,rfl⟩ h14
  have h15:=h14 rfl rfl
  simp only [ca,na] at h15
  refine ga rfl (nil (Run.seq (Run.seq ?_)))
  refine Run.join (σ:=Bool) (λ s_ L_ w_=>L_=[(0,v0),(7,u1),(9,u4),(10,.int .i64 y2.1),(13,.int .i64 y3),(22,v1),(23,.int .i64 (a1.length:Int)),(24,.int .i64 s1.1),(72,.bool s_)]∧St e w_ [(false,.val (Rep.slice Sensor_.rep) v0 a0),(false,.val (Rep.slice Event_.rep) v1 a1),Gqs] [(false,.box 55 Event_.rep u4 x2),(true,.slice 49 (Rep.int .u16) u1 s1.2)]) hF (λ s2 _ w8 hI hF=>?_) (λ j1 hj1 hF=>?_)
  ·obtain ⟨rfl,h16⟩:=hI
   refine Run.ite rfl hF (λ e8 hF=>?_) (λ e8 hF=>?_)
   ·refine Run.exit rfl ?_
    refine Run.reg (gb rfl (gm rfl (nil (Run.slim [(0,v0),(7,u1),(22,v1),(23,.int .i64 (a1.length:Int)),(24,.int .i64 (IntKind.i64.wrap (s1.1+1)))] ⟨rfl,rfl,rfl,rfl,rfl,trivial⟩ ?_))))
    exact hk1 ((IntKind.i64.wrap (s1.1+1)),s1.2) _ _ ⟨rfl,(h16.facts (.atm .z (.atm (.s .z) (.atm (.s (.s .z)) .nil)))).picks (.cons (.s .z) .nil)⟩ hF
   refine Run.skip (Run.seq ?_)
   have h17:=h16.picks (.cons (.s .z) (.cons .z .nil))
   obtain ⟨x3,e9,hF⟩:=Qa hF
   obtain ⟨e10,hF⟩:=Qr hF
   refine Run.drawV (Ωs:=[(false,.box 55 Event_.rep u4 x2)]) [.k 73 u1,.k 74 (.int .i64 y3),.kr 75 (padd (sp u1) ((y3:Int).toNat*(Rep.int .u16).n)) [0],.kr 76 (.int .u16 x3) [0],.k 77 (.int .i64 y2.1),.k 78 (.int .u16 (bShl .u16 1 y2.1))] [[],[],[0,1],[2],[],[4]] [[(true,.slice 49 (Rep.int .u16) u1 s1.2)]] [0,1,2,3,4,5,6] Qi rfl rfl rfl h17 (.cons ?_ (.cons ?_ (.cons ?_ (.cons ?_ (.cons ?_ (.cons ?_ .nil)))))) (λ q1 w hq1 h=>?_)
   ·intro q1 w Γx Ωx h
    refine OpS.mv rfl rfl rfl ?_
    exact du h
   ·intro q1 w Γx Ωx h
    refine OpS.mv rfl rfl rfl ?_
    exact du h
   ·intro q1 w Γx Ωx h
    refine OpS.iown h .z Tryz.underlying60 ty49 rfl rfl rfl rfl e9 ?_
    exact du h
   ·intro q1 w Γx Ωx h
    refine OpS.loadOi h .z (Qnl e9) PA.a (Get.arr e9) ty49 rfl rfl rfl ?_
    exact du h
   ·intro q1 w Γx Ωx h
    refine OpS.mv rfl rfl rfl ?_
    exact du h
   ·intro q1 w Γx Ωx h
    refine OpS.shl rfl rfl rfl rfl e10 ?_
    exact du h
   have h18:=h
   refine gb rfl (op (OpS.iown h18 .z Tryz.underlying60 ty49 rfl rfl rfl rfl e9 ?_))
   obtain ⟨d1,e11,hF⟩:=Qh hF
   refine op (OpS.storeO (f':=true) h18 .z (Qnl e9) PA.a (Put.of (Put.arr e9) e11) ty49 rfl rfl rfl V.int (.inl rfl) (λ w9 h19=>?_))
   refine nil (sr (op (OpS.fbox (o3:=6) h19 (.s .z) PA.z Qup rfl rfl rfl rfl ?_)))
   refine op (OpS.loadBb h19 (.s .z) PA.a (Get.fld Event_.f6) ty4 rfl rfl rfl ?_)
   refine nil ?_
   refine Run.ite rfl hF (λ e12 hF=>?_) (λ e12 hF=>?_)
   ·obtain ⟨x4,e13,hF⟩:=Qa hF
    obtain ⟨e14,hF⟩:=Qr hF
    refine Run.drawV (Ωs:=[(false,.box 55 Event_.rep u4 x2)]) [.k 83 u1,.k 84 (.int .i64 y3),.kr 85 (padd (sp u1) ((y3:Int).toNat*(Rep.int .u16).n)) [0],.kr 86 (.int .u16 x4) [0],.k 87 (.int .i64 y2.1),.k 88 (.int .u16 (bShl .u16 1 y2.1))] [[],[],[0,1],[2],[],[4]] [[(true,.slice 49 (Rep.int .u16) u1 d1)]] [0,1,2,3,4,5,6] Qi rfl rfl rfl h19 (.cons ?_ (.cons ?_ (.cons ?_ (.cons ?_ (.cons ?_ (.cons ?_ .nil)))))) (λ q2 w hq2 h=>?_)
    ·intro q2 w Γx Ωx h
     refine OpS.mv rfl rfl rfl ?_
     exact du h
    ·intro q2 w Γx Ωx h
     refine OpS.mv rfl rfl rfl ?_
     exact du h
    ·intro q2 w Γx Ωx h
     refine OpS.iown h .z Tryz.underlying60 ty49 rfl rfl rfl rfl e13 ?_
     exact du h
    ·intro q2 w Γx Ωx h
     refine OpS.loadOi h .z (Qnl e13) PA.a (Get.arr e13) ty49 rfl rfl rfl ?_
     exact du h
    ·intro q2 w Γx Ωx h
     refine OpS.mv rfl rfl rfl ?_
     exact du h
    ·intro q2 w Γx Ωx h
     refine OpS.shl rfl rfl rfl rfl e14 ?_
     exact du h
    have h20:=h
    refine gb rfl (op (OpS.iown h20 .z Tryz.underlying60 ty49 rfl rfl rfl rfl e13 ?_))
    obtain ⟨d2,e15,hF⟩:=Qh hF
    refine op (OpS.storeO (f':=true) h20 .z (Qnl e13) PA.a (Put.of (Put.arr e13) e15) ty49 rfl rfl rfl V.int (.inl rfl) (λ w10 h21=>?_))
    refine nil (Run.endBlock (Run.reg (gb rfl (gm rfl (nil (Run.slim [(0,v0),(7,u1),(22,v1),(23,.int .i64 (a1.length:Int)),(24,.int .i64 (IntKind.i64.wrap (s1.1+1)))] ⟨rfl,rfl,rfl,rfl,rfl,trivial⟩ ?_))))))
    exact hk1 ((IntKind.i64.wrap (s1.1+1)),d2) _ _ ⟨rfl,(h21.facts (.atm .z (.atm (.s .z) (.atm (.s (.s .z)) .nil)))).picks (.cons .z .nil)⟩ hF
   refine Run.skip (Run.endBlock (Run.reg (gb rfl (gm rfl (nil (Run.slim [(0,v0),(7,u1),(22,v1),(23,.int .i64 (a1.length:Int)),(24,.int .i64 (IntKind.i64.wrap (s1.1+1)))] ⟨rfl,rfl,rfl,rfl,rfl,trivial⟩ ?_))))))
   exact hk1 ((IntKind.i64.wrap (s1.1+1)),d1) _ _ ⟨rfl,(h19.facts (.atm .z (.atm (.s .z) (.atm (.s (.s .z)) .nil)))).picks (.cons .z .nil)⟩ hF
  obtain ⟨x5,e16,hF⟩:=Qh hF
  refine Qap hF (λ e17 hF=>?_) (λ e17 hF=>?_)
  ·have hG:=hF
   subst e17
   have hF:=hG
   refine Run.drawV (Ωs:=[(true,.slice 49 (Rep.int .u16) u1 s1.2)]) [.k 37 (.bool y2.2.2),.k 38 (.bool (!y2.2.2)),.k 39 (.bool true),.k 40 undef,.k 41 undef,.k 42 (.bool true),.k 43 (.bool true),.k 44 undef,.k 45 undef,.k 46 undef,.k 47 undef,.k 48 undef,.k 49 undef,.k 50 undef,.k 51 undef,.k 52 (.bool true),.k 53 (.bool true),.k 54 undef,.k 55 undef,.k 56 undef,.k 57 undef,.k 58 undef,.k 59 undef,.k 60 undef,.k 61 (.bool true),.k 62 (.bool true),.k 63 undef,.k 64 undef,.k 65 undef,.k 66 undef,.k 67 undef,.k 68 undef] [[],[0],[1],[2],[2],[2,4],[5],[6],[6],[6],[6],[6],[6],[6],[6],[6,14],[15],[16],[16],[16],[16],[16],[16],[16],[16,23],[24],[25],[25],[25],[25],[25],[25]] [[(false,.box 55 Event_.rep u4 x2)]] [0,1,2,3,4,5,6,7,8,9,10,11,12,13,14,15,16,17,18,19,20,21,22,23,24,25,26,27,28,29,30,31,32] Qi rfl rfl rfl h15 (.cons ?_ (.cons ?_ (.cons ?_ (.cons (dp λ _=>rfl) (.cons (dp λ _=>rfl) (.cons ?_ (.cons ?_ (.cons (dp λ _=>rfl) (.cons (dp λ _=>rfl) (.cons (dp λ _=>rfl) (.cons (dp λ _=>rfl) (.cons (dp λ _=>rfl) (.cons (dp λ _=>rfl) (.cons (dp λ _=>rfl) (.cons (dp λ _=>rfl) (.cons ?_ (.cons ?_ (.cons (dp λ _=>rfl) (.cons (dp λ _=>rfl) (.cons (dp λ _=>rfl) (.cons (dp λ _=>rfl) (.cons (dp λ _=>rfl) (.cons (dp λ _=>rfl) (.cons (dp λ _=>rfl) (.cons ?_ (.cons ?_ (.cons (dp λ _=>rfl) (.cons (dp λ _=>rfl) (.cons (dp λ _=>rfl) (.cons (dp λ _=>rfl) (.cons (dp λ _=>rfl) (.cons (dp λ _=>rfl) .nil)))))))))))))))))))))))))))))))) (λ q3 w hq3 h=>?_)
   ·intro q3 w Γx Ωx h
    refine OpS.mv rfl rfl rfl ?_
    exact du h
   ·intro q3 w Γx Ωx h
    refine OpS.not rfl rfl rfl ?_
    exact du h
   ·intro q3 w Γx Ωx h
    refine OpS.mv rfl rfl rfl ?_
    exact ⟨undef,(congrArg (λ z_=>some (Value.bool z_)) e16),trivial,h⟩
   ·intro q3 w Γx Ωx h
    refine OpS.pick rfl rfl rfl rfl ?_
    exact du h
   ·intro q3 w Γx Ωx h
    refine OpS.mv rfl rfl rfl ?_
    exact du h
   ·intro q3 w Γx Ωx h
    refine OpS.pick rfl rfl rfl rfl ?_
    exact du h
   ·intro q3 w Γx Ωx h
    refine OpS.mv rfl rfl rfl ?_
    exact du h
   ·intro q3 w Γx Ωx h
    refine OpS.pick rfl rfl rfl rfl ?_
    exact du h
   ·intro q3 w Γx Ωx h
    refine OpS.mv rfl rfl rfl ?_
    exact du h
   have h22:=h
   refine gp rfl (gp rfl (gp rfl (gk rfl (nil (Run.slim [(72,.bool true),(13,.int .i64 y3),(10,.int .i64 y2.1),(9,u4),(0,v0),(7,u1),(22,v1),(23,.int .i64 (a1.length:Int)),(24,.int .i64 s1.1)] ⟨rfl,rfl,rfl,rfl,rfl,rfl,rfl,rfl,rfl,trivial⟩ ?_)))))
   refine Run.slim [(0,v0),(7,u1),(9,u4),(10,.int .i64 y2.1),(13,.int .i64 y3),(22,v1),(23,.int .i64 (a1.length:Int)),(24,.int .i64 s1.1),(72,.bool true)] ⟨rfl,rfl,rfl,rfl,rfl,rfl,rfl,rfl,rfl,trivial⟩ ?_
   exact hj1 (true) _ _ ⟨rfl,(h22.facts (.atm (.s (.s (.s .z))) (.atm (.s (.s (.s (.s .z)))) (.atm (.s (.s (.s (.s (.s .z))))) .nil)))).picks (.cons .z (.cons .z .nil))⟩ hF
  have hG:=hF
  subst e17
  have hF:=hG
  obtain ⟨x6,e18,hF⟩:=Qh hF
  refine Qap hF (λ e19 hF=>?_) (λ e19 hF=>?_)
  ·have hG:=hF
   subst e19
   have hF:=hG
   refine Run.drawV (Ωs:=[(true,.slice 49 (Rep.int .u16) u1 s1.2)]) [.k 37 (.bool y2.2.2),.k 38 (.bool (!y2.2.2)),.k 39 (.bool false),.k 40 (.int .i64 y3),.k 41 (.bool (decide (y3<0))),.k 42 (.bool (decide (y3<0))),.k 43 (.bool true),.k 44 undef,.k 45 undef,.k 46 undef,.k 47 undef,.k 48 undef,.k 49 undef,.k 50 undef,.k 51 undef,.k 52 (.bool true),.k 53 (.bool true),.k 54 undef,.k 55 undef,.k 56 undef,.k 57 undef,.k 58 undef,.k 59 undef,.k 60 undef,.k 61 (.bool true),.k 62 (.bool true),.k 63 undef,.k 64 undef,.k 65 undef,.k 66 undef,.k 67 undef,.k 68 undef] [[],[0],[1],[2],[3,2],[2,4],[5],[6],[6],[6],[6],[6],[6],[6],[6],[6,14],[15],[16],[16],[16],[16],[16],[16],[16],[16,23],[24],[25],[25],[25],[25],[25],[25]] [[(false,.box 55 Event_.rep u4 x2)]] [0,1,2,3,4,5,6,7,8,9,10,11,12,13,14,15,16,17,18,19,20,21,22,23,24,25,26,27,28,29,30,31,32] Qi rfl rfl rfl h15 (.cons ?_ (.cons ?_ (.cons ?_ (.cons ?_ (.cons ?_ (.cons ?_ (.cons ?_ (.cons (dp λ _=>rfl) (.cons (dp λ _=>rfl) (.cons (dp λ _=>rfl) (.cons (dp λ _=>rfl) (.cons (dp λ _=>rfl) (.cons (dp λ _=>rfl) (.cons (dp λ _=>rfl) (.cons (dp λ _=>rfl) (.cons ?_ (.cons ?_ (.cons (dp λ _=>rfl) (.cons (dp λ _=>rfl) (.cons (dp λ _=>rfl) (.cons (dp λ _=>rfl) (.cons (dp λ _=>rfl) (.cons (dp λ _=>rfl) (.cons (dp λ _=>rfl) (.cons ?_ (.cons ?_ (.cons (dp λ _=>rfl) (.cons (dp λ _=>rfl) (.cons (dp λ _=>rfl) (.cons (dp λ _=>rfl) (.cons (dp λ _=>rfl) (.cons (dp λ _=>rfl) .nil)))))))))))))))))))))))))))))))) (λ q3 w hq4 h=>?_)
   ·intro q3 w Γx Ωx h
    refine OpS.mv rfl rfl rfl ?_
    exact du h
   ·intro q3 w Γx Ωx h
    refine OpS.not rfl rfl rfl ?_
    exact du h
   ·intro q3 w Γx Ωx h
    refine OpS.mv rfl rfl rfl ?_
    exact ⟨undef,(congrArg (λ z_=>some (Value.bool z_)) e16),trivial,h⟩
   ·intro q3 w Γx Ωx h
    refine OpS.mv rfl rfl rfl ?_
    exact du h
   ·intro q3 w Γx Ωx h
    refine OpS.bin rfl rfl rfl rfl rfl ?_
    exact du h
   ·intro q3 w Γx Ωx h
    refine OpS.pick rfl rfl rfl rfl ?_
    exact du h
   ·intro q3 w Γx Ωx h
    refine OpS.mv rfl rfl rfl ?_
    exact ⟨undef,(congrArg (λ z_=>some (Value.bool z_)) e18),trivial,h⟩
   ·intro q3 w Γx Ωx h
    refine OpS.pick rfl rfl rfl rfl ?_
    exact du h
   ·intro q3 w Γx Ωx h
    refine OpS.mv rfl rfl rfl ?_
    exact du h
   ·intro q3 w Γx Ωx h
    refine OpS.pick rfl rfl rfl rfl ?_
    exact du h
   ·intro q3 w Γx Ωx h
    refine OpS.mv rfl rfl rfl ?_
    exact du h
   have h23:=h
   refine gp rfl (gp rfl (gp rfl (gk rfl (nil (Run.slim [(72,.bool true),(13,.int .i64 y3),(10,.int .i64 y2.1),(9,u4),(0,v0),(7,u1),(22,v1),(23,.int .i64 (a1.length:Int)),(24,.int .i64 s1.1)] ⟨rfl,rfl,rfl,rfl,rfl,rfl,rfl,rfl,rfl,trivial⟩ ?_)))))
   refine Run.slim [(0,v0),(7,u1),(9,u4),(10,.int .i64 y2.1),(13,.int .i64 y3),(22,v1),(23,.int .i64 (a1.length:Int)),(24,.int .i64 s1.1),(72,.bool true)] ⟨rfl,rfl,rfl,rfl,rfl,rfl,rfl,rfl,rfl,trivial⟩ ?_
   exact hj1 (true) _ _ ⟨rfl,(h23.facts (.atm (.s (.s (.s .z))) (.atm (.s (.s (.s (.s .z)))) (.atm (.s (.s (.s (.s (.s .z))))) .nil)))).picks (.cons .z (.cons .z .nil))⟩ hF
  have hG:=hF
  subst e19
  have hF:=hG
  obtain ⟨x7,e20,hF⟩:=Qa hF
  obtain ⟨x8,e21,hF⟩:=Qh hF
  refine Qap hF (λ e22 hF=>?_) (λ e22 hF=>?_)
  ·have hG:=hF
   subst e22
   have hF:=hG
   refine Run.drawV (Ωs:=[(true,.slice 49 (Rep.int .u16) u1 s1.2)]) [.k 37 (.bool y2.2.2),.k 38 (.bool (!y2.2.2)),.k 39 (.bool false),.k 40 (.int .i64 y3),.k 41 (.bool (decide (y3<0))),.k 42 (.bool (decide (y3<0))),.k 43 (.bool false),.k 44 v0,.k 45 (.int .i64 y3),.f 46 (λ u_=>[(false,.ptr Sensor_.rep u_ x7)]),.f 47 (λ u_=>[(false,.ptr (Rep.int .u8) u_ x7.Type_)]),.k 48 (.int .u8 x7.Type_),.kr 49 (padd u4 3) [0],.kr 50 (.int .u8 x2.SensorType) [0],.k 51 (.bool (x7.Type_ != x2.SensorType)),.k 52 (.bool (x7.Type_ != x2.SensorType)),.k 53 (.bool true),.k 54 undef,.k 55 undef,.k 56 undef,.k 57 undef,.k 58 undef,.k 59 undef,.k 60 undef,.k 61 (.bool true),.k 62 (.bool true),.k 63 undef,.k 64 undef,.k 65 undef,.k 66 undef,.k 67 undef,.k 68 undef] [[],[0],[1],[2],[3,2],[2,4],[5],[6],[6],[7,8,6],[9,6],[10,6],[6],[12,6],[11,13,6],[6,14],[15],[16],[16],[16],[16],[16],[16],[16],[16,23],[24],[25],[25],[25],[25],[25],[25]] [[(false,.box 55 Event_.rep u4 x2)]] [0,1,2,3,4,5,6,7,8,9,10,11,12,13,14,15,16,17,18,19,20,21,22,23,24,25,26,27,28,29,30,31,32] Qi rfl rfl rfl h15 (.cons ?_ (.cons ?_ (.cons ?_ (.cons ?_ (.cons ?_ (.cons ?_ (.cons ?_ (.cons ?_ (.cons ?_ (.cons ?_ (.cons ?_ (.cons ?_ (.cons ?_ (.cons ?_ (.cons ?_ (.cons ?_ (.cons ?_ (.cons (dp λ _=>rfl) (.cons (dp λ _=>rfl) (.cons (dp λ _=>rfl) (.cons (dp λ _=>rfl) (.cons (dp λ _=>rfl) (.cons (dp λ _=>rfl) (.cons (dp λ _=>rfl) (.cons ?_ (.cons ?_ (.cons (dp λ _=>rfl) (.cons (dp λ _=>rfl) (.cons (dp λ _=>rfl) (.cons (dp λ _=>rfl) (.cons (dp λ _=>rfl) (.cons (dp λ _=>rfl) .nil)))))))))))))))))))))))))))))))) (λ q3 w hq5 h=>?_)
   ·intro q3 w Γx Ωx h
    refine OpS.mv rfl rfl rfl ?_
    exact du h
   ·intro q3 w Γx Ωx h
    refine OpS.not rfl rfl rfl ?_
    exact du h
   ·intro q3 w Γx Ωx h
    refine OpS.mv rfl rfl rfl ?_
    exact ⟨undef,(congrArg (λ z_=>some (Value.bool z_)) e16),trivial,h⟩
   ·intro q3 w Γx Ωx h
    refine OpS.mv rfl rfl rfl ?_
    exact du h
   ·intro q3 w Γx Ωx h
    refine OpS.bin rfl rfl rfl rfl rfl ?_
    exact du h
   ·intro q3 w Γx Ωx h
    refine OpS.pick rfl rfl rfl rfl ?_
    exact du h
   ·intro q3 w Γx Ωx h
    refine OpS.mv rfl rfl rfl ?_
    exact ⟨undef,(congrArg (λ z_=>some (Value.bool z_)) e18),trivial,h⟩
   ·intro q3 w Γx Ωx h
    refine OpS.mv rfl rfl rfl ?_
    exact du h
   ·intro q3 w Γx Ωx h
    refine OpS.mv rfl rfl rfl ?_
    exact du h
   ·intro q3 w Γx Ωx h
    refine OpS.iptr h Tryz.underlying27 ty74 rfl rfl rfl rfl (V.at (.s (.s (.s .z)))) e20 (λ u h26=>?_)
    exact ⟨u,rfl,trivial,h26⟩
   ·intro q3 w Γx Ωx h
    refine OpS.fptr h Qog Sensor_.f1 rfl rfl rfl .z (λ u h27=>?_)
    exact ⟨u,rfl,trivial,h27⟩
   ·intro q3 w Γx Ωx h
    refine OpS.loadi h ty5 rfl rfl rfl .z ?_
    exact du h
   ·intro q3 w Γx Ωx h
    refine OpS.fbox (o3:=3) h .z PA.z Qpg rfl rfl rfl rfl ?_
    exact du h
   ·intro q3 w Γx Ωx h
    refine OpS.loadBi h .z PA.a (Get.fld Event_.f3) ty5 rfl rfl rfl ?_
    exact du h
   ·intro q3 w Γx Ωx h
    refine OpS.bin rfl rfl rfl rfl rfl ?_
    exact du h
   ·intro q3 w Γx Ωx h
    refine OpS.pick rfl rfl rfl rfl ?_
    exact du h
   ·intro q3 w Γx Ωx h
    refine OpS.mv rfl rfl rfl ?_
    exact ⟨undef,(congrArg (λ z_=>some (Value.bool z_)) e21),trivial,h⟩
   ·intro q3 w Γx Ωx h
    refine OpS.pick rfl rfl rfl rfl ?_
    exact du h
   ·intro q3 w Γx Ωx h
    refine OpS.mv rfl rfl rfl ?_
    exact du h
   have h28:=h
   refine gp rfl (gp rfl (gp rfl (gk rfl (nil (Run.slim [(72,.bool true),(13,.int .i64 y3),(10,.int .i64 y2.1),(9,u4),(0,v0),(7,u1),(22,v1),(23,.int .i64 (a1.length:Int)),(24,.int .i64 s1.1)] ⟨rfl,rfl,rfl,rfl,rfl,rfl,rfl,rfl,rfl,trivial⟩ ?_)))))
   refine Run.slim [(0,v0),(7,u1),(9,u4),(10,.int .i64 y2.1),(13,.int .i64 y3),(22,v1),(23,.int .i64 (a1.length:Int)),(24,.int .i64 s1.1),(72,.bool true)] ⟨rfl,rfl,rfl,rfl,rfl,rfl,rfl,rfl,rfl,trivial⟩ ?_
   exact hj1 (true) _ _ ⟨rfl,(h28.facts (.atm (.s (.s (.s (.s (.s .z))))) (.atm (.s (.s (.s (.s (.s (.s .z)))))) (.atm (.s (.s (.s (.s (.s (.s (.s .z))))))) .nil)))).picks (.cons .z (.cons .z .nil))⟩ hF
  have hG:=hF
  subst e22
  have hF:=hG
  obtain ⟨x9,e23,hF⟩:=Qh hF
  refine Qap hF (λ e24 hF=>?_) (λ e24 hF=>?_)
  ·have hG:=hF
   subst e24
   have hF:=hG
   refine Run.drawV (Ωs:=[(true,.slice 49 (Rep.int .u16) u1 s1.2)]) [.k 37 (.bool y2.2.2),.k 38 (.bool (!y2.2.2)),.k 39 (.bool false),.k 40 (.int .i64 y3),.k 41 (.bool (decide (y3<0))),.k 42 (.bool (decide (y3<0))),.k 43 (.bool false),.k 44 v0,.k 45 (.int .i64 y3),.f 46 (λ u_=>[(false,.ptr Sensor_.rep u_ x7)]),.f 47 (λ u_=>[(false,.ptr (Rep.int .u8) u_ x7.Type_)]),.k 48 (.int .u8 x7.Type_),.kr 49 (padd u4 3) [0],.kr 50 (.int .u8 x2.SensorType) [0],.k 51 (.bool (x7.Type_ != x2.SensorType)),.k 52 (.bool (x7.Type_ != x2.SensorType)),.k 53 (.bool false),.k 54 v0,.k 55 (.int .i64 y3),.f 56 (λ u_=>[(false,.ptr Sensor_.rep u_ x7)]),.f 57 (λ u_=>[(false,.ptr Rep.bool u_ x7.Discrete)]),.k 58 (.bool x7.Discrete),.k 59 (.bool y2.2.1),.k 60 (.bool (x7.Discrete==y2.2.1)),.k 61 (.bool (x7.Discrete==y2.2.1)),.k 62 (.bool true),.k 63 undef,.k 64 undef,.k 65 undef,.k 66 undef,.k 67 undef,.k 68 undef] [[],[0],[1],[2],[3,2],[2,4],[5],[6],[6],[7,8,6],[9,6],[10,6],[6],[12,6],[11,13,6],[6,14],[15],[16],[16],[17,18,16],[19,16],[20,16],[16],[21,22,16],[16,23],[24],[25],[25],[25],[25],[25],[25]] [[(false,.box 55 Event_.rep u4 x2)]] [0,1,2,3,4,5,6,7,8,9,10,11,12,13,14,15,16,17,18,19,20,21,22,23,24,25,26,27,28,29,30,31,32] Qi rfl rfl rfl h15 (.cons ?_ (.cons ?_ (.cons ?_ (.cons ?_ (.cons ?_ (.cons ?_ (.cons ?_ (.cons ?_ (.cons ?_ (.cons ?_ (.cons ?_ (.cons ?_ (.cons ?_ (.cons ?_ (.cons ?_ (.cons ?_ (.cons ?_ (.cons ?_ (.cons ?_ (.cons ?_ (.cons ?_ (.cons ?_ (.cons ?_ (.cons ?_ (.cons ?_ (.cons ?_ (.cons (dp λ _=>rfl) (.cons (dp λ _=>rfl) (.cons (dp λ _=>rfl) (.cons (dp λ _=>rfl) (.cons (dp λ _=>rfl) (.cons (dp λ _=>rfl) .nil)))))))))))))))))))))))))))))))) (λ q3 w hq6 h=>?_)
   ·intro q3 w Γx Ωx h
    refine OpS.mv rfl rfl rfl ?_
    exact du h
   ·intro q3 w Γx Ωx h
    refine OpS.not rfl rfl rfl ?_
    exact du h
   ·intro q3 w Γx Ωx h
    refine OpS.mv rfl rfl rfl ?_
    exact ⟨undef,(congrArg (λ z_=>some (Value.bool z_)) e16),trivial,h⟩
   ·intro q3 w Γx Ωx h
    refine OpS.mv rfl rfl rfl ?_
    exact du h
   ·intro q3 w Γx Ωx h
    refine OpS.bin rfl rfl rfl rfl rfl ?_
    exact du h
   ·intro q3 w Γx Ωx h
    refine OpS.pick rfl rfl rfl rfl ?_
    exact du h
   ·intro q3 w Γx Ωx h
    refine OpS.mv rfl rfl rfl ?_
    exact ⟨undef,(congrArg (λ z_=>some (Value.bool z_)) e18),trivial,h⟩
   ·intro q3 w Γx Ωx h
    refine OpS.mv rfl rfl rfl ?_
    exact du h
   ·intro q3 w Γx Ωx h
    refine OpS.mv rfl rfl rfl ?_
    exact du h
   ·intro q3 w Γx Ωx h
    refine OpS.iptr h Tryz.underlying27 ty74 rfl rfl rfl rfl (V.at (.s (.s (.s .z)))) e20 (λ u h31=>?_)
    exact ⟨u,rfl,trivial,h31⟩
   ·intro q3 w Γx Ωx h
    refine OpS.fptr h Qog Sensor_.f1 rfl rfl rfl .z (λ u h32=>?_)
    exact ⟨u,rfl,trivial,h32⟩
   ·intro q3 w Γx Ωx h
    refine OpS.loadi h ty5 rfl rfl rfl .z ?_
    exact du h
   ·intro q3 w Γx Ωx h
    refine OpS.fbox (o3:=3) h .z PA.z Qpg rfl rfl rfl rfl ?_
    exact du h
   ·intro q3 w Γx Ωx h
    refine OpS.loadBi h .z PA.a (Get.fld Event_.f3) ty5 rfl rfl rfl ?_
    exact du h
   ·intro q3 w Γx Ωx h
    refine OpS.bin rfl rfl rfl rfl rfl ?_
    exact du h
   ·intro q3 w Γx Ωx h
    refine OpS.pick rfl rfl rfl rfl ?_
    exact du h
   ·intro q3 w Γx Ωx h
    refine OpS.mv rfl rfl rfl ?_
    exact ⟨undef,(congrArg (λ z_=>some (Value.bool z_)) e21),trivial,h⟩
   ·intro q3 w Γx Ωx h
    refine OpS.mv rfl rfl rfl ?_
    exact du h
   ·intro q3 w Γx Ωx h
    refine OpS.mv rfl rfl rfl ?_
    exact du h
   ·intro q3 w Γx Ωx h
    refine OpS.iptr h Tryz.underlying27 ty74 rfl rfl rfl rfl (V.at (.s (.s (.s .z)))) e20 (λ u h33=>?_)
    exact ⟨u,rfl,trivial,h33⟩
   ·intro q3 w Γx Ωx h
    refine OpS.fptr h Qnn Sensor_.f5 rfl rfl rfl .z (λ u h34=>?_)
    exact ⟨u,rfl,trivial,h34⟩
   ·intro q3 w Γx Ωx h
    refine OpS.loadb h ty4 rfl rfl rfl .z ?_
    exact du h
   ·intro q3 w Γx Ωx h
    refine OpS.mv rfl rfl rfl ?_
    exact du h
   ·intro q3 w Γx Ωx h
    refine OpS.eqb Tryz.underlying4 rfl rfl rfl rfl ?_
    exact du h
   ·intro q3 w Γx Ωx h
    refine OpS.pick rfl rfl rfl rfl ?_
    exact du h
   ·intro q3 w Γx Ωx h
    refine OpS.mv rfl rfl rfl ?_
    exact ⟨undef,(congrArg (λ z_=>some (Value.bool z_)) e23),trivial,h⟩
   have h35:=h
   refine gp rfl (gp rfl (gp rfl (gk rfl (nil (Run.slim [(72,.bool true),(13,.int .i64 y3),(10,.int .i64 y2.1),(9,u4),(0,v0),(7,u1),(22,v1),(23,.int .i64 (a1.length:Int)),(24,.int .i64 s1.1)] ⟨rfl,rfl,rfl,rfl,rfl,rfl,rfl,rfl,rfl,trivial⟩ ?_)))))
   refine Run.slim [(0,v0),(7,u1),(9,u4),(10,.int .i64 y2.1),(13,.int .i64 y3),(22,v1),(23,.int .i64 (a1.length:Int)),(24,.int .i64 s1.1),(72,.bool true)] ⟨rfl,rfl,rfl,rfl,rfl,rfl,rfl,rfl,rfl,trivial⟩ ?_
   exact hj1 (true) _ _ ⟨rfl,(h35.facts (.atm (.s (.s (.s (.s (.s (.s (.s .z))))))) (.atm (.s (.s (.s (.s (.s (.s (.s (.s .z)))))))) (.atm (.s (.s (.s (.s (.s (.s (.s (.s (.s .z))))))))) .nil)))).picks (.cons .z (.cons .z .nil))⟩ hF
  have hG:=hF
  subst e24
  have hF:=hG
  obtain ⟨y4,e25,hF⟩:=Qa hF
  refine Run.drawV (Ωs:=[(true,.slice 49 (Rep.int .u16) u1 s1.2)]) [.k 37 (.bool y2.2.2),.k 38 (.bool (!y2.2.2)),.k 39 (.bool false),.k 40 (.int .i64 y3),.k 41 (.bool (decide (y3<0))),.k 42 (.bool (decide (y3<0))),.k 43 (.bool false),.k 44 v0,.k 45 (.int .i64 y3),.f 46 (λ u_=>[(false,.ptr Sensor_.rep u_ x7)]),.f 47 (λ u_=>[(false,.ptr (Rep.int .u8) u_ x7.Type_)]),.k 48 (.int .u8 x7.Type_),.kr 49 (padd u4 3) [0],.kr 50 (.int .u8 x2.SensorType) [0],.k 51 (.bool (x7.Type_ != x2.SensorType)),.k 52 (.bool (x7.Type_ != x2.SensorType)),.k 53 (.bool false),.k 54 v0,.k 55 (.int .i64 y3),.f 56 (λ u_=>[(false,.ptr Sensor_.rep u_ x7)]),.f 57 (λ u_=>[(false,.ptr Rep.bool u_ x7.Discrete)]),.k 58 (.bool x7.Discrete),.k 59 (.bool y2.2.1),.k 60 (.bool (x7.Discrete==y2.2.1)),.k 61 (.bool (x7.Discrete==y2.2.1)),.k 62 (.bool false),.k 63 v0,.k 64 (.int .i64 y3),.f 65 (λ u_=>[(false,.ptr Sensor_.rep u_ x7)]),.f 66 (λ u_=>[(false,.val Sensor_.rep u_ x7)]),.k 67 (.int .u16 y4),.k 68 (.int .i64 y2.1)] [[],[0],[1],[2],[3,2],[2,4],[5],[6],[6],[7,8,6],[9,6],[10,6],[6],[12,6],[11,13,6],[6,14],[15],[16],[16],[17,18,16],[19,16],[20,16],[16],[21,22,16],[16,23],[24],[25],[25],[26,27,25],[28,25],[29,25],[25]] [[(false,.box 55 Event_.rep u4 x2)]] [0,1,2,3,4,5,6,7,8,9,10,11,12,13,14,15,16,17,18,19,20,21,22,23,24,25,26,27,28,29,30,31,32] Qi rfl rfl rfl h15 (.cons ?_ (.cons ?_ (.cons ?_ (.cons ?_ (.cons ?_ (.cons ?_ (.cons ?_ (.cons ?_ (.cons ?_ (.cons ?_ (.cons ?_ (.cons ?_ (.cons ?_ (.cons ?_ (.cons ?_ (.cons ?_ (.cons ?_ (.cons ?_ (.cons ?_ (.cons ?_ (.cons ?_ (.cons ?_ (.cons ?_ (.cons ?_ (.cons ?_ (.cons ?_ (.cons ?_ (.cons ?_ (.cons ?_ (.cons ?_ (.cons ?_ (.cons ?_ .nil)))))))))))))))))))))))))))))))) (λ q3 w hq7 h=>?_)
  ·intro q3 w Γx Ωx h
   refine OpS.mv rfl rfl rfl ?_
   exact du h
  ·intro q3 w Γx Ωx h
   refine OpS.not rfl rfl rfl ?_
   exact du h
  ·intro q3 w Γx Ωx h
   refine OpS.mv rfl rfl rfl ?_
   exact ⟨undef,(congrArg (λ z_=>some (Value.bool z_)) e16),trivial,h⟩
  ·intro q3 w Γx Ωx h
   refine OpS.mv rfl rfl rfl ?_
   exact du h
  ·intro q3 w Γx Ωx h
   refine OpS.bin rfl rfl rfl rfl rfl ?_
   exact du h
  ·intro q3 w Γx Ωx h
   refine OpS.pick rfl rfl rfl rfl ?_
   exact du h
  ·intro q3 w Γx Ωx h
   refine OpS.mv rfl rfl rfl ?_
   exact ⟨undef,(congrArg (λ z_=>some (Value.bool z_)) e18),trivial,h⟩
  ·intro q3 w Γx Ωx h
   refine OpS.mv rfl rfl rfl ?_
   exact du h
  ·intro q3 w Γx Ωx h
   refine OpS.mv rfl rfl rfl ?_
   exact du h
  ·intro q3 w Γx Ωx h
   refine OpS.iptr h Tryz.underlying27 ty74 rfl rfl rfl rfl (V.at (.s (.s (.s .z)))) e20 (λ u h40=>?_)
   exact ⟨u,rfl,trivial,h40⟩
  ·intro q3 w Γx Ωx h
   refine OpS.fptr h Qog Sensor_.f1 rfl rfl rfl .z (λ u h41=>?_)
   exact ⟨u,rfl,trivial,h41⟩
  ·intro q3 w Γx Ωx h
   refine OpS.loadi h ty5 rfl rfl rfl .z ?_
   exact du h
  ·intro q3 w Γx Ωx h
   refine OpS.fbox (o3:=3) h .z PA.z Qpg rfl rfl rfl rfl ?_
   exact du h
  ·intro q3 w Γx Ωx h
   refine OpS.loadBi h .z PA.a (Get.fld Event_.f3) ty5 rfl rfl rfl ?_
   exact du h
  ·intro q3 w Γx Ωx h
   refine OpS.bin rfl rfl rfl rfl rfl ?_
   exact du h
  ·intro q3 w Γx Ωx h
   refine OpS.pick rfl rfl rfl rfl ?_
   exact du h
  ·intro q3 w Γx Ωx h
   refine OpS.mv rfl rfl rfl ?_
   exact ⟨undef,(congrArg (λ z_=>some (Value.bool z_)) e21),trivial,h⟩
  ·intro q3 w Γx Ωx h
   refine OpS.mv rfl rfl rfl ?_
   exact du h
  ·intro q3 w Γx Ωx h
   refine OpS.mv rfl rfl rfl ?_
   exact du h
  ·intro q3 w Γx Ωx h
   refine OpS.iptr h Tryz.underlying27 ty74 rfl rfl rfl rfl (V.at (.s (.s (.s .z)))) e20 (λ u h42=>?_)
   exact ⟨u,rfl,trivial,h42⟩
  ·intro q3 w Γx Ωx h
   refine OpS.fptr h Qnn Sensor_.f5 rfl rfl rfl .z (λ u h43=>?_)
   exact ⟨u,rfl,trivial,h43⟩
  ·intro q3 w Γx Ωx h
   refine OpS.loadb h ty4 rfl rfl rfl .z ?_
   exact du h
  ·intro q3 w Γx Ωx h
   refine OpS.mv rfl rfl rfl ?_
   exact du h
  ·intro q3 w Γx Ωx h
   refine OpS.eqb Tryz.underlying4 rfl rfl rfl rfl ?_
   exact du h
  ·intro q3 w Γx Ωx h
   refine OpS.pick rfl rfl rfl rfl ?_
   exact du h
  ·intro q3 w Γx Ωx h
   refine OpS.mv rfl rfl rfl ?_
   exact ⟨undef,(congrArg (λ z_=>some (Value.bool z_)) e23),trivial,h⟩
  ·intro q3 w Γx Ωx h
   refine OpS.mv rfl rfl rfl ?_
   exact du h
  ·intro q3 w Γx Ωx h
   refine OpS.mv rfl rfl rfl ?_
   exact du h
  ·intro q3 w Γx Ωx h
   refine OpS.iptr h Tryz.underlying27 ty74 rfl rfl rfl rfl (V.at (.s (.s (.s .z)))) e20 (λ u h44=>?_)
   exact ⟨u,rfl,trivial,h44⟩
  ·intro q3 w Γx Ωx h
   refine OpS.load h ty74 rfl rfl rfl .z (λ u h45=>?_)
   exact ⟨u,rfl,trivial,h45⟩
  ·intro q3 w Γx Ωx h
   refine OpS.callP h Tryz.func93 rfl rfl rfl rfl (vs:=[(q3 29)]) rfl (Qjw e25) (.cons (f:=false) (V.at .z) .nil) ?_
   rintro _ w12 _ _ _ ⟨rfl,rfl,rfl,rfl⟩ h46
   have h47:=h46 rfl rfl
   simp only [ca,na] at h47
   exact ⟨undef,rfl,trivial,h47⟩
  ·intro q3 w Γx Ωx h
   refine OpS.mv rfl rfl rfl ?_
   exact du h
  have h48:=h
  obtain ⟨e26,hF⟩:=Qr hF
  refine op (OpS.shr rfl rfl rfl rfl e26 ?_)
  refine gb rfl (gb rfl (gk rfl (nil (Run.slim [(72,.bool ((bAnd .u16 (bShr .u16 y4 y2.1) 1)==0)),(13,.int .i64 y3),(10,.int .i64 y2.1),(9,u4),(0,v0),(7,u1),(22,v1),(23,.int .i64 (a1.length:Int)),(24,.int .i64 s1.1)] ⟨rfl,rfl,rfl,rfl,rfl,rfl,rfl,rfl,rfl,trivial⟩ ?_))))
  refine Run.slim [(0,v0),(7,u1),(9,u4),(10,.int .i64 y2.1),(13,.int .i64 y3),(22,v1),(23,.int .i64 (a1.length:Int)),(24,.int .i64 s1.1),(72,.bool ((bAnd .u16 (bShr .u16 y4 y2.1) 1)==0))] ⟨rfl,rfl,rfl,rfl,rfl,rfl,rfl,rfl,rfl,trivial⟩ ?_
  exact hj1 ((bAnd .u16 (bShr .u16 y4 y2.1) 1)==0) _ _ ⟨rfl,(h48.facts (.atm (.s (.s (.s (.s (.s (.s (.s (.s (.s .z))))))))) (.atm (.s (.s (.s (.s (.s (.s (.s (.s (.s (.s .z)))))))))) (.atm (.s (.s (.s (.s (.s (.s (.s (.s (.s (.s (.s .z))))))))))) .nil)))).picks (.cons .z (.cons .z .nil))⟩ hF
 refine Run.exit rfl ?_
 refine sr (gm rfl (ga rfl (ga rfl (nil (Run.retP rfl (.tmp rfl (.tmp rfl .nil)) ?_)))))
 cases hF
 exact Post.mk' ⟨u1,rfl,rfl,rfl,rfl⟩ (h5.picks (.cons .z .nil)) .nil
theorem Qii {fuel:Nat} {a0:Qd} {a1:Int} {a2:Int} {y:Int×Qd} (hF:Qbh fuel a0 a1 a2=some y) {w:World} {v0 v0_0 v0_1:Value} :
  Spec Tryz.prog 74 [v0,.int .u8 a1,.int .u16 a2].toArray w [] [(false,.box 184 (Qd.repW v0_0 v0_1) v0 a0),(false,.slice 188 Filter_.rep v0_0 a0.filters),(false,.slice 49 (Rep.int .u16) v0_1 a0.states)] (λ v Γr Ωr Ωo=>∃ w0_0 w0_1:Value,v=.int .i64 y.1∧Γr=[]∧Ωr=[]∧Ωo=[(false,.box 184 (Qd.repW w0_0 w0_1) v0 y.2),(false,(.slice 188 Filter_.rep w0_0 y.2.filters)),(false,(.slice 49 (Rep.int .u16) w0_1 y.2.states))]):=by
 refine Spec.of (L:=[(0,v0),(1,.int .u8 a1),(2,.int .u16 a2)]) Tryz.func74 rfl ⟨rfl,rfl,rfl,trivial⟩ rfl (λ e h=>?_)
 unfold Qbh at hF
 refine sr (ga rfl (nil (sr (gm rfl (gm rfl ?_)))))
 obtain ⟨y1,e1,hF⟩:=Qa hF
 have h1:=h.front (.cons .z (.cons .z (.cons .z .nil)))
 refine op (OpS.callO h1 Tryz.func94 rfl rfl rfl rfl (vs:=[v0,.int .u8 a1]) rfl (Qeb e1) rfl .nil ?_)
 rintro _ w1 _ _ _ ⟨rfl,rfl,rfl,rfl⟩ h2
 have h3:=h2
 simp only [ca,na] at h3
 refine ga rfl (nil (Run.seq (Run.block (sr (gm rfl (gb rfl (ga rfl ?_)))))))
 obtain ⟨x1,e2,hF⟩:=Qh hF
 refine RunL.nameb e2 ?_
 refine nil ?_
 refine Run.ite rfl hF (λ e3 hF=>?_) (λ e3 hF=>?_)
 ·refine sr (ga rfl (nil (Run.retP rfl (.tmp rfl .nil) ?_)))
  cases hF
  exact Post.mk' ⟨v0_0,v0_1,rfl,rfl,rfl,rfl⟩ (h3.picks (.cons .z (.cons .z (.cons .z .nil)))) .nil
 refine sr (gm rfl (gm rfl (op (OpS.nchk h3 .z rfl rfl rfl ?_))))
 refine op (OpS.fbox (o3:=0) h3 .z PA.z Qhm rfl rfl rfl rfl ?_)
 refine op (OpS.loadB (fr:=(Rep.slice Sensor_.rep)) h3 .z PA.a (GetS.ok (GetS.iso _ (GetS.here GetS.id))) (Ty.like ty27 (by rfl) (by rfl)) rfl rfl rfl (λ u1 h4=>?_))
 refine gm rfl ?_
 obtain ⟨x2,e4,hF⟩:=Qa hF
 refine op (OpS.iptr h4 Tryz.underlying27 ty74 rfl rfl rfl rfl (V.at .z) e4 (λ u2 h5=>?_))
 refine op (OpS.load h5 ty74 rfl rfl rfl .z (λ u3 h6=>?_))
 obtain ⟨y2,e5,hF⟩:=Qa hF
 refine op (OpS.callP h6 Tryz.func93 rfl rfl rfl rfl (vs:=[u3]) rfl (Qjw e5) (.cons (f:=false) (V.at .z) .nil) ?_)
 rintro _ w2 _ _ _ ⟨rfl,rfl,rfl,rfl⟩ h7
 have h8:=h7 rfl rfl
 simp only [ca,na] at h8
 refine gb rfl (gb rfl (ga rfl ?_))
 obtain ⟨x3,e6,hF⟩:=Qh hF
 refine RunL.nameb e6 ?_
 refine nil ?_
 refine Run.ite rfl hF (λ e7 hF=>?_) (λ e7 hF=>?_)
 ·refine sr (ga rfl (nil (Run.retP rfl (.tmp rfl .nil) ?_)))
  cases hF
  exact Post.mk' ⟨v0_0,v0_1,rfl,rfl,rfl,rfl⟩ (h8.picks (.cons .z (.cons .z (.cons .z .nil)))) .nil
 refine Run.skip (Run.endBlock (sr (gm rfl (op (OpS.nchk h8 .z rfl rfl rfl ?_)))))
 refine op (OpS.fbox (o3:=3) h8 .z PA.z Qjb rfl rfl rfl rfl ?_)
 refine op (OpS.loadR h8 .z PA.a (GetS.ok (GetS.iso _ (GetS.there (GetS.there (GetS.there (GetS.here GetS.id)))))) ty60 rfl rfl rfl rfl rfl ?_)
 refine gm rfl (gm rfl ?_)
 obtain ⟨x4,e8,hF⟩:=Qa hF
 refine op (OpS.iown h8 (.s (.s .z)) Tryz.underlying60 ty49 rfl rfl rfl rfl e8 ?_)
 obtain ⟨d1,e9,hF⟩:=Qh hF
 refine op (OpS.storeO (f':=true) h8 (.s (.s .z)) (Qnl e8) PA.a (Put.of (Put.arr e8) e9) ty49 rfl rfl rfl V.int (.inr rfl) (λ w3 h9=>?_))
 refine nil (sr (ga rfl (nil ?_)))
 have h10:=St.boxJ (r':=(Qd.repW v0_0 v0_1)) (x':={ a0 with states:=d1 }) (h9.pick (.s .z)) (λ _ _ hs_=>(Jn.iso _ (Jn.prod Jn.refl (Jn.prod Jn.refl (Jn.prod Jn.same (Jn.prod Jn.same Jn.refl))))))
 refine Run.retP rfl (.tmp rfl .nil) ?_
 cases hF
 exact Post.mk' ⟨v0_0,v0_1,rfl,rfl,rfl,rfl⟩ (h10.picks (.cons .z (.cons (.s .z) (.cons .z .nil)))) .nil
set_option maxRecDepth 20000 in
theorem Qlf {fuel:Nat} {a0:List Sensor_} {a1:List Event_} {y:(Option Qd)} (hF:Qgd fuel a0 a1=some y) {w:World} {v0 v1:Value} :
  Spec Tryz.prog 15 [v0,v1].toArray w [(false,.val (Rep.slice Sensor_.rep) v0 a0),(false,.val (Rep.slice Event_.rep) v1 a1),Gqs] [] (λ v Γr Ωr Ωo=>∃ u0:Value,v=u0∧Γr=[]∧Ωr=[(false,.opt (Qd.mem u0) u0 y)]∧Ωo=[]):=by
 refine Spec.of (L:=[(0,v0),(1,v1)]) Tryz.func15 rfl ⟨rfl,rfl,trivial⟩ rfl (λ e h=>?_)
 unfold Qgd at hF
 refine sr (ga rfl (nil (sr (gm rfl ?_))))
 obtain ⟨y1,e1,hF⟩:=Qa hF
 have h1:=h.front .nil
 refine op (OpS.callO h1 Tryz.func30 rfl rfl rfl rfl (vs:=[v0,.slice none 0 0]) rfl (Qke e1) rfl (.cons (f:=false) (V.at .z) (.cons (f:=true) V.nil .nil)) ?_)
 rintro _ w1 _ _ _ ⟨u1,rfl,rfl,rfl,rfl⟩ h2
 have h3:=h2
 simp only [ca,na] at h3
 refine gm rfl (op (OpS.ext rfl rfl rfl rfl ?_))
 refine op (OpS.ext rfl rfl rfl rfl ?_)
 refine ga rfl (ga rfl (nil (sr (gm rfl (gm rfl ?_)))))
 obtain ⟨y2,e2,hF⟩:=Qa hF
 refine op (OpS.callP h3 Tryz.func27 rfl rfl rfl rfl (vs:=[v0,v1]) rfl (Qie e2) (.cons (f:=false) (V.at .z) (.cons (f:=false) (V.at (.s .z)) (.ptr (.s (.s .z)) .nil))) ?_)
 rintro _ w2 _ _ _ ⟨u2,rfl,rfl,rfl,rfl⟩ h4
 have h5:=h4 rfl rfl
 simp only [ca,na] at h5
 refine gm rfl (op (OpS.ext rfl rfl rfl rfl ?_))
 refine op (OpS.ext rfl rfl rfl rfl ?_)
 refine ga rfl ?_
 have h6:=(h5.pick .z).freeze
 refine ga rfl (nil (Run.seq (sr (gm rfl (op (OpS.onilE2 h6 .z (λ _=>PtrOf.ex λ _=>PtrOf.ex λ _=>PtrOf.sep PtrOf.box) Tryz.underlying38 rfl rfl rfl rfl ?_))))))
 refine gm rfl ?_
 refine RunL.join (σ:=Bool) (λ s_ L_ w_=>L_=[(0,v0),(5,u1),(7,u2),(37,.bool s_)]∧St e w_ [(false,.val (Rep.slice Sensor_.rep) v0 a0),(true,.val (Rep.slice (Rep.int .u16)) u2 y2.1),Gqs] [(false,.opt (Qd.mem u1) u1 y1.1)]) hF (λ s1 _ w3 hI hF=>?_) (λ j1 hj1 hF=>?_)
 ·obtain ⟨rfl,h7⟩:=hI
  refine Run.ite rfl hF (λ e3 hF=>?_) (λ e3 hF=>?_)
  ·refine sr (ga rfl (nil ?_))
   have h8:=St.none (Qd.mem (.pointer none)) h7
   have h9:=(h8.pick .z).weak
   refine Run.retP rfl (.tmp rfl .nil) ?_
   cases hF
   exact Post.mk' ⟨(.pointer none),rfl,rfl,rfl,rfl⟩ (h9.picks (.cons .z .nil)) .nil
  refine Run.skip (Run.seq (sr (ga rfl (nil (Run.block (Run.slim [(0,v0),(5,u1),(7,u2),(9,.int .i64 0)] ⟨rfl,rfl,rfl,rfl,trivial⟩ ?_))))))
  refine Run.loopP (σ:=(Int×(Option Qd))) (λ s_ L_ w_=>∃ u0_:Value,L_=[(0,v0),(5,u0_),(7,u2),(9,.int .i64 s_.1)]∧St e w_ [(false,.val (Rep.slice Sensor_.rep) v0 a0),(true,.val (Rep.slice (Rep.int .u16)) u2 y2.1),Gqs] [(false,.opt (Qd.mem u0_) u0_ s_.2)]) hF ⟨u1,rfl,(h7.facts (.atm .z (.atm (.s .z) (.atm (.s (.s .z)) .nil)))).picks (.cons .z .nil)⟩ (λ k1 hk1 s2 _ w4 hI hF=>?_)
  obtain ⟨u3,rfl,h10⟩:=hI
  refine Run.seq (sr (gm rfl (gm rfl (op (OpS.len h10 Tryz.underlying27 rfl rfl rfl (V.at .z) ?_)))))
  refine gb rfl (nil ?_)
  refine Run.ite rfl hF (λ e4 hF=>?_) (λ e4 hF=>?_)
  ·refine Run.skip (Run.seq (Run.block (Run.seq ?_)))
   obtain ⟨x1,e5,hF⟩:=Qa hF
   obtain ⟨x2,e6,hF⟩:=Qa hF
   refine Run.drawV (Ωs:=[(false,.opt (Qd.mem u3) u3 s2.2)]) [.k 44 u3,.k 45 v0,.k 46 (.int .i64 s2.1),.f 47 (λ u_=>[(false,.ptr Sensor_.rep u_ x1)]),.f 48 (λ u_=>[(false,.ptr (Rep.int .u8) u_ x1.Number)]),.k 49 (.int .u8 x1.Number),.k 50 u2,.k 51 (.int .i64 s2.1),.f 52 (λ u_=>[(true,.ptr (Rep.int .u16) u_ x2)]),.k 53 (.int .u16 x2)] [[],[],[],[1,2],[3],[4],[],[],[6,7],[8]] [] [0,1,2,3,4,5,6,7,8,9] Qi rfl rfl rfl h10 (.cons ?_ (.cons ?_ (.cons ?_ (.cons ?_ (.cons ?_ (.cons ?_ (.cons ?_ (.cons ?_ (.cons ?_ (.cons ?_ .nil)))))))))) (λ q1 w hq1 h=>?_)
   ·intro q1 w Γx Ωx h
    refine OpS.mv rfl rfl rfl ?_
    exact du h
   ·intro q1 w Γx Ωx h
    refine OpS.mv rfl rfl rfl ?_
    exact du h
   ·intro q1 w Γx Ωx h
    refine OpS.mv rfl rfl rfl ?_
    exact du h
   ·intro q1 w Γx Ωx h
    refine OpS.iptr h Tryz.underlying27 ty74 rfl rfl rfl rfl (V.at .z) e5 (λ u h14=>?_)
    exact ⟨u,rfl,trivial,h14⟩
   ·intro q1 w Γx Ωx h
    refine OpS.fptr h Qnr Sensor_.f0 rfl rfl rfl .z (λ u h15=>?_)
    exact ⟨u,rfl,trivial,h15⟩
   ·intro q1 w Γx Ωx h
    refine OpS.loadi h ty5 rfl rfl rfl .z ?_
    exact du h
   ·intro q1 w Γx Ωx h
    refine OpS.mv rfl rfl rfl ?_
    exact du h
   ·intro q1 w Γx Ωx h
    refine OpS.mv rfl rfl rfl ?_
    exact du h
   ·intro q1 w Γx Ωx h
    refine OpS.iptr h Tryz.underlying60 ty49 rfl rfl rfl rfl (V.at (.s .z)) e6 (λ u h16=>?_)
    exact ⟨u,rfl,trivial,h16⟩
   ·intro q1 w Γx Ωx h
    refine OpS.loadi h ty49 rfl rfl rfl .z ?_
    exact du h
   have h17:=h
   obtain ⟨x3,e7,hF⟩:=Qa hF
   have h18:=St.unopt (h17.pick .z) e7
   obtain ⟨u4,h19⟩:=h18.unex
   obtain ⟨u5,h20⟩:=h19.unex
   have h21:=h20.unsep
   have h22:=(h21.pick (.s .z)).unsep
   obtain ⟨y3,e8,hF⟩:=Qa hF
   have h23:=h22.front (.cons (.s (.s .z)) (.cons .z (.cons .z .nil)))
   refine op (OpS.callO h23 Tryz.func74 rfl rfl rfl rfl (vs:=[u3,.int .u8 x1.Number,.int .u16 x2]) rfl (Qii e8) rfl .nil ?_)
   rintro _ w5 _ _ _ ⟨u6,u7,rfl,rfl,rfl,rfl⟩ h24
   have h25:=h24
   simp only [ca,na] at h25
   refine gb rfl (nil ?_)
   refine Run.ite rfl hF (λ e9 hF=>?_) (λ e9 hF=>?_)
   ·refine sr (ga rfl (nil ?_))
    have h26:=St.none (Qd.mem (.pointer none)) h25
    have h27:=(h26.pick .z).weak
    refine Run.retP rfl (.tmp rfl .nil) ?_
    cases hF
    exact Post.mk' ⟨(.pointer none),rfl,rfl,rfl,rfl⟩ (h27.picks (.cons .z .nil)) .nil
   refine Run.skip (Run.endBlock (Run.reg (gm rfl (gb rfl (ga rfl ?_)))))
   obtain ⟨x4,e10,hF⟩:=Qh hF
   refine RunL.name e10 ?_
   refine nil ?_
   have h28:=h25.front (.cons (.s .z) (.cons (.s .z) (.cons .z .nil)))
   have h29:=St.sep h28
   have h30:=St.sep (h29.pick (.s .z))
   have h31:=St.ex (H:=λ w1_=>.sep (.box 184 (Qd.repW u6 w1_) u3 y3.2) (.sep (.slice 188 Filter_.rep u6 y3.2.filters) (.slice 49 (Rep.int .u16) w1_ y3.2.states))) u7 h30
   have h32:=St.ex (H:=λ w0_=>.ex λ w1_=>.sep (.box 184 (Qd.repW w0_ w1_) u3 y3.2) (.sep (.slice 188 Filter_.rep w0_ y3.2.filters) (.slice 49 (Rep.int .u16) w1_ y3.2.states))) u6 h31
   have h33:=St.some (H:=(Qd.mem u3)) (q:=u3) (x:=y3.2) h32
   refine Run.slim [(0,v0),(5,u3),(7,u2),(9,.int .i64 x4)] ⟨rfl,rfl,rfl,rfl,trivial⟩ ?_
   exact hk1 (x4,(some y3.2)) _ _ ⟨u3,rfl,(h33.facts (.atm (.s (.s (.s .z))) (.atm (.s (.s (.s (.s .z)))) (.atm (.s (.s (.s (.s (.s .z))))) .nil)))).picks (.cons .z .nil)⟩ hF
  refine Run.exit rfl ?_
  refine sr (gm rfl (ga rfl (nil (Run.retP rfl (.tmp rfl .nil) ?_))))
  cases hF
  exact Post.mk' ⟨u3,rfl,rfl,rfl,rfl⟩ (h10.picks (.cons .z .nil)) .nil
 refine RunL.caseb hF (λ e11 hF=>?_) (λ e11 hF=>?_)
 ·refine gp rfl (gp rfl (gk rfl (gm rfl (gp rfl (gp rfl (gk rfl (gm rfl (gp rfl (gp rfl (gp rfl (gp rfl (gp rfl (gk rfl (nil (Run.slim [(37,.bool true),(7,u2),(5,u1),(0,v0)] ⟨rfl,rfl,rfl,rfl,trivial⟩ ?_)))))))))))))))
  refine Run.slim [(0,v0),(5,u1),(7,u2),(37,.bool true)] ⟨rfl,rfl,rfl,rfl,trivial⟩ ?_
  exact hj1 (true) _ _ ⟨rfl,(h6.facts (.atm (.s .z) (.atm .z (.atm (.s (.s (.s .z))) .nil)))).picks (.cons .z .nil)⟩ hF
 refine gm rfl (gb rfl (gk rfl (gm rfl ?_)))
 refine RunL.caseb hF (λ e12 hF=>?_) (λ e12 hF=>?_)
 ·refine gp rfl (gp rfl (gk rfl (gm rfl (gp rfl (gp rfl (gp rfl (gp rfl (gp rfl (gk rfl (nil (Run.slim [(37,.bool true),(7,u2),(5,u1),(0,v0)] ⟨rfl,rfl,rfl,rfl,trivial⟩ ?_)))))))))))
  refine Run.slim [(0,v0),(5,u1),(7,u2),(37,.bool true)] ⟨rfl,rfl,rfl,rfl,trivial⟩ ?_
  exact hj1 (true) _ _ ⟨rfl,(h6.facts (.atm (.s .z) (.atm .z (.atm (.s (.s (.s .z))) .nil)))).picks (.cons .z .nil)⟩ hF
 refine gm rfl (gb rfl (gk rfl (gm rfl ?_)))
 refine RunL.caseb hF (λ e13 hF=>?_) (λ e13 hF=>?_)
 ·refine gp rfl (gp rfl (gp rfl (gp rfl (gp rfl (gk rfl (nil (Run.slim [(37,.bool true),(7,u2),(5,u1),(0,v0)] ⟨rfl,rfl,rfl,rfl,trivial⟩ ?_)))))))
  refine Run.slim [(0,v0),(5,u1),(7,u2),(37,.bool true)] ⟨rfl,rfl,rfl,rfl,trivial⟩ ?_
  exact hj1 (true) _ _ ⟨rfl,(h6.facts (.atm (.s .z) (.atm .z (.atm (.s (.s (.s .z))) .nil)))).picks (.cons .z .nil)⟩ hF
 refine gm rfl (op (OpS.len h6 Tryz.underlying60 rfl rfl rfl (V.at .z) ?_))
 refine gm rfl (op (OpS.len h6 Tryz.underlying27 rfl rfl rfl (V.at (.s .z)) ?_))
 refine gb rfl (gk rfl (nil (Run.slim [(37,.bool ((y2.1.length:Int) != (a0.length:Int))),(7,u2),(5,u1),(0,v0)] ⟨rfl,rfl,rfl,rfl,trivial⟩ ?_)))
 refine Run.slim [(0,v0),(5,u1),(7,u2),(37,.bool ((y2.1.length:Int) != (a0.length:Int)))] ⟨rfl,rfl,rfl,rfl,trivial⟩ ?_
 exact hj1 ((y2.1.length:Int) != (a0.length:Int)) _ _ ⟨rfl,(h6.facts (.atm (.s .z) (.atm .z (.atm (.s (.s (.s .z))) .nil)))).picks (.cons .z .nil)⟩ hF
set_option maxRecDepth 20000 in
theorem Qma {fuel:Nat} {a0:Qg} {a1:Sensor_} {y:Int×Qg} (hF:Qeq fuel a0 a1=some y) {w:World} {v0 v1:Value} :
  Spec Tryz.prog 75 [v0,v1].toArray w [(false,.val Sensor_.rep v1 a1)] [(false,.box 163 Qg.rep v0 a0)] (λ v Γr Ωr Ωo=>v=.int .u8 y.1∧Γr=[]∧Ωr=[]∧Ωo=[(false,.box 163 Qg.rep v0 y.2)]):=by
 refine Spec.of (L:=[(0,v0),(1,v1)]) Tryz.func75 rfl ⟨rfl,rfl,trivial⟩ rfl (λ e h=>?_)
 unfold Qeq at hF
 refine sr (op (OpS.boxF h rfl rfl rfl (V.at .z) (λ u1 w1 h1=>?_)))
 refine ga rfl (nil (Run.seq (sr (gm rfl ?_))))
 obtain ⟨y1,e1,hF⟩:=Qa hF
 have h2:=h1.front (.cons (.s .z) .nil)
 refine op (OpS.callO h2 Tryz.func31 rfl rfl rfl rfl (vs:=[v0,.int .i64 3]) rfl (Qah e1) rfl .nil ?_)
 rintro _ w2 _ _ _ ⟨rfl,rfl,rfl,rfl⟩ h3
 have h4:=h3
 simp only [ca,na] at h4
 refine nil ?_
 refine Run.ite rfl hF (λ e2 hF=>?_) (λ e2 hF=>?_)
 ·refine sr (gm rfl ?_)
  obtain ⟨y2,e3,hF⟩:=Qa hF
  have h5:=h4.front (.cons .z .nil)
  refine op (OpS.callO h5 Tryz.func76 rfl rfl rfl rfl (vs:=[v0]) rfl (Qdd e3) rfl .nil ?_)
  rintro _ w3 _ _ _ ⟨rfl,rfl,rfl,rfl⟩ h6
  have h7:=h6
  simp only [ca,na] at h7
  refine ga rfl (nil (Run.retP rfl (.tmp rfl .nil) ?_))
  cases hF
  exact Post.mk' ⟨rfl,rfl,rfl,rfl⟩ (h7.picks (.cons .z .nil)) .nil
 refine Run.skip (Run.seq ?_)
 obtain ⟨y3,e4,hF⟩:=Qa hF
 obtain ⟨x1,e5,hF⟩:=Qa hF
 obtain ⟨e6,hF⟩:=Qr hF
 obtain ⟨y4,e7,hF⟩:=Qa hF
 refine Run.drawV (Ωs:=[]) [.k 9 v0,⟨some 10,some (.int .i64 y3.1),λ _=>[],λ ds_ u_=>[(false,.box 163 Qg.rep v0 y3.2)],[0],[],none⟩,.kr 11 (padd u1 14) [1],.kr 12 (padd u1 15) [1],.kr 13 (padd u1 (15+(y3.1:Int).toNat*(Rep.int .u8).n)) [1],.kr 14 (.int .u8 x1) [1],.k 15 (.int .i64 (IntKind.i64.wrap x1)),.k 16 v0,⟨some 17,some (.int .i64 y4.1),λ _=>[],λ ds_ u_=>[(false,.box 163 Qg.rep v0 y4.2)],[3],[],none⟩] [[],[0],[],[2],[3,1],[4],[5],[],[7]] [[(false,.box 163 Qg.rep v0 y1.2)],[(false,.box 74 Sensor_.rep u1 a1)]] [1,2,4,5,6,7,8,9,10] Qi rfl rfl rfl h4 (.cons ?_ (.cons ?_ (.cons ?_ (.cons ?_ (.cons ?_ (.cons ?_ (.cons ?_ (.cons ?_ (.cons ?_ .nil))))))))) (λ q1 w hq1 h=>?_)
 ·intro q1 w Γx Ωx h
  refine OpS.mv rfl rfl rfl ?_
  exact du h
 ·intro q1 w Γx Ωx h
  have h14:=h.front (.cons .z .nil)
  refine OpS.callO h14 Tryz.func54 rfl rfl rfl rfl (vs:=[v0,.int .i64 6]) rfl (Qj e4) rfl .nil ?_
  rintro _ w6 _ _ _ ⟨rfl,rfl,rfl,rfl⟩ h15
  have h16:=h15
  simp only [ca,na] at h16
  exact ⟨undef,rfl,trivial,h16⟩
 ·intro q1 w Γx Ωx h
  refine OpS.fbox (o3:=14) h .z PA.z Qnm rfl rfl rfl rfl ?_
  exact du h
 ·intro q1 w Γx Ωx h
  refine OpS.fbox (o3:=15) h .z PA.a Qnz rfl rfl rfl rfl ?_
  exact du h
 ·intro q1 w Γx Ωx h
  refine OpS.ibox h .z PA.a Tryz.underlying70 ty5 (Nat.eq_of_beq_eq_true e6) rfl rfl rfl rfl e5 ?_
  exact du h
 ·intro q1 w Γx Ωx h
  refine OpS.loadBi h .z PA.a (Get.comp (Get.comp (Get.fld Sensor_.f7) (Get.fld Thresholds_.f1)) (Get.arr e5)) ty5 rfl rfl rfl ?_
  exact du h
 ·intro q1 w Γx Ωx h
  refine OpS.conv Tryz.underlying5 Tryz.underlying3 rfl rfl rfl ?_
  exact du h
 ·intro q1 w Γx Ωx h
  refine OpS.mv rfl rfl rfl ?_
  exact du h
 ·intro q1 w Γx Ωx h
  have h17:=h.front (.cons .z .nil)
  refine OpS.callO h17 Tryz.func54 rfl rfl rfl rfl (vs:=[v0,.int .i64 9]) rfl (Qj e7) rfl .nil ?_
  rintro _ w7 _ _ _ ⟨rfl,rfl,rfl,rfl⟩ h18
  have h19:=h18
  simp only [ca,na] at h19
  exact ⟨undef,rfl,trivial,h19⟩
 have h20:=h
 refine gb rfl (gb rfl (op (OpS.rem rfl rfl rfl rfl (by decide) ?_)))
 refine op (OpS.conv Tryz.underlying3 Tryz.underlying5 rfl rfl rfl ?_)
 refine ga rfl ?_
 obtain ⟨x2,e8,hF⟩:=Qh hF
 refine RunL.name e8 ?_
 refine nil (Run.retP rfl (.tmp rfl .nil) ?_)
 cases hF
 exact Post.mk' ⟨rfl,rfl,rfl,rfl⟩ (h20.picks (.cons (.s .z) .nil)) .nil
set_option maxHeartbeats 8000000 in set_option maxRecDepth 20000 in
theorem Qla {fuel:Nat} {a0:Qg} {a1:List Sensor_} {y:(List Sample_)×Qg} (hF:Qdb fuel a0 a1=some y) {w:World} {v0 v1:Value} :
  Spec Tryz.prog 16 [v0,v1].toArray w [(false,.val (Rep.slice Sensor_.rep) v1 a1)] [(false,.box 163 Qg.rep v0 a0)] (λ v Γr Ωr Ωo=>∃ u0:Value,v=u0∧Γr=[]∧Ωr=[(true,(.slice 93 Sample_.rep u0 y.1))]∧Ωo=[(false,.box 163 Qg.rep v0 y.2)]):=by
 refine Spec.of (L:=[(0,v0),(1,v1)]) Tryz.func16 rfl ⟨rfl,rfl,trivial⟩ rfl (λ e h=>?_)
 unfold Qdb at hF
 refine sr (ga rfl (nil (sr (ga rfl (nil (Run.seq (sr (ga rfl (nil (Run.block ?_))))))))))
 have h1:=St.nil 93 Sample_.rep h
 refine Run.slim [(0,v0),(1,v1),(5,(.slice none 0 0)),(6,.int .i64 0)] ⟨rfl,rfl,rfl,rfl,trivial⟩ ?_
 refine Run.loopP (σ:=(Int×Qg×(List Sample_))) (λ s_ L_ w_=>∃ u0_:Value,L_=[(0,v0),(1,v1),(5,u0_),(6,.int .i64 s_.1)]∧St e w_ [(false,.val (Rep.slice Sensor_.rep) v1 a1)] [(false,.box 163 Qg.rep v0 s_.2.1),(true,.slice 93 Sample_.rep u0_ s_.2.2)]) hF ⟨(.slice none 0 0),rfl,(h1.facts (.atm .z .nil)).picks (.cons (.s .z) (.cons .z .nil))⟩ (λ k1 hk1 s1 _ w1 hI hF=>?_)
 obtain ⟨u1,rfl,h2⟩:=hI
 refine Run.seq (sr (gm rfl (gm rfl (op (OpS.len h2 Tryz.underlying27 rfl rfl rfl (V.at .z) ?_)))))
 refine gb rfl (nil ?_)
 refine Run.ite rfl hF (λ e1 hF=>?_) (λ e1 hF=>?_)
 ·refine Run.skip (Run.seq (Run.block (sr (gm rfl (gm rfl ?_)))))
  obtain ⟨x1,e2,hF⟩:=Qa hF
  refine op (OpS.iptr h2 Tryz.underlying27 ty74 rfl rfl rfl rfl (V.at .z) e2 (λ u2 h3=>?_))
  refine op (OpS.load h3 ty74 rfl rfl rfl .z (λ u3 h4=>?_))
  refine op (OpS.alloc h4 ti74 Sensor_.zr rfl rfl (λ u4 w2 h5=>?_))
  have h6:=(h5.pick .z).weak
  refine op (OpS.storeB (f':=false) h6 .z PA.z Put.id ty74 rfl rfl rfl (V.at .z) (.inr rfl) (λ w3 h7=>?_))
  refine nil (Run.seq (sr (gm rfl ?_)))
  obtain ⟨y1,e3,hF⟩:=Qa hF
  have h8:=h7.front (.cons (.s .z) .nil)
  refine op (OpS.callO h8 Tryz.func31 rfl rfl rfl rfl (vs:=[v0,.int .i64 8]) rfl (Qah e3) rfl .nil ?_)
  rintro _ w4 _ _ _ ⟨rfl,rfl,rfl,rfl⟩ h9
  have h10:=h9
  simp only [ca,na] at h10
  refine nil ?_
  refine Run.ite rfl hF (λ e4 hF=>?_) (λ e4 hF=>?_)
  ·refine Run.exit rfl ?_
   refine Run.reg (gm rfl (gb rfl (ga rfl ?_)))
   obtain ⟨x2,e5,hF⟩:=Qh hF
   refine RunL.name e5 ?_
   refine nil (Run.slim [(0,v0),(1,v1),(5,u1),(6,.int .i64 x2)] ⟨rfl,rfl,rfl,rfl,trivial⟩ ?_)
   exact hk1 (x2,y1.2,s1.2.2) _ _ ⟨u1,rfl,(h10.facts (.atm (.s (.s .z)) .nil)).picks (.cons .z (.cons (.s .z) .nil))⟩ hF
  refine Run.skip (Run.seq ?_)
  obtain ⟨y2,e6,hF⟩:=Qa hF
  refine Run.drawV (Ωs:=[(true,.slice 93 Sample_.rep u1 s1.2.2)]) [.kr 21 (padd u4 0) [1],.kr 22 (.int .u8 x1.Number) [1],.k 23 v0,⟨some 24,some (.bool y2.1),λ _=>[],λ ds_ u_=>[(false,.box 163 Qg.rep v0 y2.2)],[0],[],none⟩,.k 25 (.bool (!y2.1)),.f 26 (λ u_=>[(true,.val Sample_.rep u_ (⟨x1.Number,!y2.1,0,0⟩:Sample_))]),⟨some 8,none,λ u_=>[],λ ds_ u_=>[(true,.box 93 Sample_.rep u_ Sample_.z)],[],[],none⟩] [[],[0],[],[2],[3],[1,4],[]] [[(false,.box 163 Qg.rep v0 y1.2)],[(false,.box 74 Sensor_.rep u4 x1)]] [1,2,3,4,5,6,7,8] Qi rfl rfl rfl h10 (.cons ?_ (.cons ?_ (.cons ?_ (.cons ?_ (.cons ?_ (.cons ?_ (.cons ?_ .nil))))))) (λ q1 w hq1 h=>?_)
  ·intro q1 w Γx Ωx h
   refine OpS.fbox (o3:=0) h .z PA.z Qnr rfl rfl rfl rfl ?_
   exact du h
  ·intro q1 w Γx Ωx h
   refine OpS.loadBi h .z PA.a (Get.fld Sensor_.f0) ty5 rfl rfl rfl ?_
   exact du h
  ·intro q1 w Γx Ωx h
   refine OpS.mv rfl rfl rfl ?_
   exact du h
  ·intro q1 w Γx Ωx h
   have h16:=h.front (.cons .z .nil)
   refine OpS.callO h16 Tryz.func31 rfl rfl rfl rfl (vs:=[v0,.int .i64 6]) rfl (Qah e6) rfl .nil ?_
   rintro _ w7 _ _ _ ⟨rfl,rfl,rfl,rfl⟩ h17
   have h18:=h17
   simp only [ca,na] at h18
   exact ⟨undef,rfl,trivial,h18⟩
  ·intro q1 w Γx Ωx h
   refine OpS.not rfl rfl rfl ?_
   exact du h
  ·intro q1 w Γx Ωx h
   refine OpS.build (f:=true) (x':=(⟨x1.Number,!y2.1,0,0⟩:Sample_)) h pl93 ti93 Sample_.zr rfl rfl rfl (.cons rfl Sample_.f0 rfl V.int (.cons rfl Sample_.f1 rfl V.bool .nil)) (λ u h19=>?_)
   exact ⟨u,rfl,trivial,h19⟩
  ·intro q1 w Γx Ωx h
   refine OpS.alloc h ti93 Sample_.zr rfl rfl (λ u w8 h20=>?_)
   exact ⟨u,rfl,trivial,h20⟩
  have h21:=h
  refine op (OpS.storeB (f':=true) h21 (.s (.s .z)) PA.z Put.id ty93 rfl rfl rfl (V.at .z) (.inl rfl) (λ w9 h22=>?_))
  refine nil (Run.seq (sr (op (OpS.fbox (o3:=1) h22 .z PA.z Qob rfl rfl rfl rfl ?_))))
  refine op (OpS.loadBb h22 .z PA.a (Get.fld Sample_.f1) ty4 rfl rfl rfl ?_)
  refine gm rfl ?_
  refine RunL.join (σ:=Bool) (λ s_ L_ w_=>L_=[(0,v0),(1,v1),(5,u1),(6,.int .i64 s1.1),(7,u4),(8,(q1 6)),(32,.bool s_)]∧St e w_ [(false,.val (Rep.slice Sensor_.rep) v1 a1)] [(false,.box 163 Qg.rep v0 y2.2),(false,.box 74 Sensor_.rep u4 x1),(true,.box 93 Sample_.rep (q1 6) (⟨x1.Number,!y2.1,0,0⟩:Sample_)),(true,.slice 93 Sample_.rep u1 s1.2.2)]) hF (λ s2 _ w10 hI hF=>?_) (λ j1 hj1 hF=>?_)
  ·obtain ⟨rfl,h23⟩:=hI
   refine Run.join (σ:=(Qg×Sample_)) (λ s_ L_ w_=>L_=[(0,v0),(1,v1),(5,u1),(6,.int .i64 s1.1),(7,u4),(8,(q1 6))]∧St e w_ [(false,.val (Rep.slice Sensor_.rep) v1 a1)] [(false,.box 163 Qg.rep v0 s_.1),(false,.box 74 Sensor_.rep u4 x1),(true,.box 93 Sample_.rep (q1 6) s_.2),(true,.slice 93 Sample_.rep u1 s1.2.2)]) hF (λ s3 _ w11 hI hF=>?_) (λ j2 hj2 hF=>?_)
   ·obtain ⟨rfl,h24⟩:=hI
    refine Run.seq (sr (op (OpS.fbox (o3:=1) h24 (.s (.s .z)) PA.z Qob rfl rfl rfl rfl ?_)))
    refine op (OpS.loadBb h24 (.s (.s .z)) PA.a (Get.fld Sample_.f1) ty4 rfl rfl rfl ?_)
    refine gm rfl ?_
    refine RunL.join (σ:=Bool) (λ s_ L_ w_=>L_=[(0,v0),(1,v1),(5,u1),(6,.int .i64 s1.1),(7,u4),(8,(q1 6)),(46,.bool s_)]∧St e w_ [(false,.val (Rep.slice Sensor_.rep) v1 a1)] [(false,.box 163 Qg.rep v0 s3.1),(false,.box 74 Sensor_.rep u4 x1),(true,.box 93 Sample_.rep (q1 6) s3.2),(true,.slice 93 Sample_.rep u1 s1.2.2)]) hF (λ s4 _ w12 hI hF=>?_) (λ j3 hj3 hF=>?_)
    ·obtain ⟨rfl,h25⟩:=hI
     refine Run.join (σ:=(Qg×Sample_)) (λ s_ L_ w_=>L_=[(0,v0),(1,v1),(5,u1),(6,.int .i64 s1.1),(8,(q1 6))]∧St e w_ [(false,.val (Rep.slice Sensor_.rep) v1 a1)] [(false,.box 163 Qg.rep v0 s_.1),(true,.box 93 Sample_.rep (q1 6) s_.2),(true,.slice 93 Sample_.rep u1 s1.2.2)]) hF (λ s5 _ w13 hI hF=>?_) (λ j4 hj4 hF=>?_)
     ·obtain ⟨rfl,h26⟩:=hI
      refine Run.seq (sr (gm rfl ?_))
      obtain ⟨y3,e7,hF⟩:=Qa hF
      have h27:=h26.front (.cons .z .nil)
      refine op (OpS.callO h27 Tryz.func31 rfl rfl rfl rfl (vs:=[v0,.int .i64 150]) rfl (Qah e7) rfl .nil ?_)
      rintro _ w14 _ _ _ ⟨rfl,rfl,rfl,rfl⟩ h28
      have h29:=h28
      simp only [ca,na] at h29
      refine nil ?_
      refine Run.join (σ:=(Qg×Sample_)) (λ s_ L_ w_=>L_=[(0,v0),(1,v1),(5,u1),(6,.int .i64 s1.1),(8,(q1 6))]∧St e w_ [(false,.val (Rep.slice Sensor_.rep) v1 a1)] [(false,.box 163 Qg.rep v0 s_.1),(true,.box 93 Sample_.rep (q1 6) s_.2),(true,.slice 93 Sample_.rep u1 s1.2.2)]) hF (λ s6 _ w15 hI hF=>?_) (λ j5 hj5 hF=>?_)
      ·obtain ⟨rfl,h30⟩:=hI
       refine Run.reg (gm rfl (op (OpS.loadB h30 (.s .z) PA.z Get.id ty93 rfl rfl rfl (λ u5 h31=>?_))))
       refine op (OpS.lit (r:=Sample_.rep) (f:=true) h31 Tryz.underlying41 ti93 rfl rfl rfl rfl rfl (.cons rfl (V.at .z) .nil) rfl rfl (λ u6 w16 h32=>?_))
       obtain ⟨x3,e8,hF⟩:=Qa hF
       refine op (OpS.app (f':=true) h32 (.s (.s .z)) Tryz.underlying41 ti93 rfl rfl rfl rfl rfl rfl rfl (V.at .z) (.inr Sample_.pure) e8 (λ u7 w17 h33=>?_))
       refine ga rfl (nil (Run.endBlock (Run.reg (gm rfl (gb rfl (ga rfl ?_))))))
       obtain ⟨x4,e9,hF⟩:=Qh hF
       refine RunL.name e9 ?_
       refine nil (Run.slim [(0,v0),(1,v1),(5,u7),(6,.int .i64 x4)] ⟨rfl,rfl,rfl,rfl,trivial⟩ ?_)
       exact hk1 (x4,s6.1,x3) _ _ ⟨u7,rfl,(h33.facts (.atm (.s (.s .z)) .nil)).picks (.cons (.s .z) (.cons .z .nil))⟩ hF
      refine Run.ite rfl hF (λ e10 hF=>?_) (λ e10 hF=>?_)
      ·refine sr (gm rfl ?_)
       obtain ⟨y4,e11,hF⟩:=Qa hF
       have h34:=h29.front (.cons .z .nil)
       refine op (OpS.callO h34 Tryz.func76 rfl rfl rfl rfl (vs:=[v0]) rfl (Qdd e11) rfl .nil ?_)
       rintro _ w18 _ _ _ ⟨rfl,rfl,rfl,rfl⟩ h35
       have h36:=h35
       simp only [ca,na] at h36
       refine op (OpS.fbox (o3:=2) h36 (.s .z) PA.z Qnx rfl rfl rfl rfl ?_)
       obtain ⟨d1,e12,hF⟩:=Qh hF
       refine op (OpS.storeB (f':=true) h36 (.s .z) PA.a (Put.of (Put.fld Sample_.f2) e12) ty5 rfl rfl rfl V.int (.inl rfl) (λ w19 h37=>?_))
       refine nil (sr (gm rfl ?_))
       obtain ⟨y5,e13,hF⟩:=Qa hF
       have h38:=h37.front (.cons (.s .z) .nil)
       refine op (OpS.callO h38 Tryz.func54 rfl rfl rfl rfl (vs:=[v0,.int .i64 65536]) rfl (Qj e13) rfl .nil ?_)
       rintro _ w20 _ _ _ ⟨rfl,rfl,rfl,rfl⟩ h39
       have h40:=h39
       simp only [ca,na] at h40
       refine op (OpS.conv Tryz.underlying3 Tryz.underlying49 rfl rfl rfl ?_)
       refine op (OpS.fbox (o3:=3) h40 (.s .z) PA.z Qnw rfl rfl rfl rfl ?_)
       obtain ⟨d2,e14,hF⟩:=Qh hF
       refine op (OpS.storeB (f':=true) h40 (.s .z) PA.a (Put.of (Put.fld Sample_.f3) e14) ty49 rfl rfl rfl V.int (.inl rfl) (λ w21 h41=>?_))
       refine nil (Run.reg (gm rfl ?_))
       obtain ⟨y6,e15,hF⟩:=Qa hF
       have h42:=h41.front (.cons (.s .z) .nil)
       refine op (OpS.callO h42 Tryz.func76 rfl rfl rfl rfl (vs:=[v0]) rfl (Qdd e15) rfl .nil ?_)
       rintro _ w22 _ _ _ ⟨rfl,rfl,rfl,rfl⟩ h43
       have h44:=h43
       simp only [ca,na] at h44
       refine op (OpS.fbox (o3:=0) h44 (.s .z) PA.z Qoh rfl rfl rfl rfl ?_)
       obtain ⟨d3,e16,hF⟩:=Qh hF
       refine op (OpS.storeB (f':=true) h44 (.s .z) PA.a (Put.of (Put.fld Sample_.f0) e16) ty5 rfl rfl rfl V.int (.inl rfl) (λ w23 h45=>?_))
       refine nil (Run.slim [(0,v0),(1,v1),(5,u1),(6,.int .i64 s1.1),(8,(q1 6))] ⟨rfl,rfl,rfl,rfl,rfl,trivial⟩ ?_)
       exact hj5 (y6.2,d3) _ _ ⟨rfl,(h45.facts (.atm .z .nil)).picks (.cons (.s .z) (.cons .z (.cons .z .nil)))⟩ hF
      refine Run.skip (Run.slim [(0,v0),(1,v1),(5,u1),(6,.int .i64 s1.1),(8,(q1 6))] ⟨rfl,rfl,rfl,rfl,rfl,trivial⟩ ?_)
      exact hj5 (y3.2,s5.2) _ _ ⟨rfl,(h29.facts (.atm .z .nil)).picks (.cons .z (.cons .z (.cons .z .nil)))⟩ hF
     refine Run.ite rfl hF (λ e17 hF=>?_) (λ e17 hF=>?_)
     ·refine Run.reg (gm rfl (op (OpS.loadB h25 (.s .z) PA.z Get.id ty74 rfl rfl rfl (λ u8 h46=>?_))))
      obtain ⟨y7,e18,hF⟩:=Qa hF
      have h47:=h46.front (.cons .z .nil)
      refine op (OpS.callO h47 Tryz.func75 rfl rfl rfl rfl (vs:=[v0,u8]) rfl (Qma e18) rfl (.cons (f:=false) (V.at .z) .nil) ?_)
      rintro _ w24 _ _ _ ⟨rfl,rfl,rfl,rfl⟩ h48
      have h49:=h48
      simp only [ca,na] at h49
      refine op (OpS.fbox (o3:=2) h49 (.s (.s .z)) PA.z Qnx rfl rfl rfl rfl ?_)
      obtain ⟨d4,e19,hF⟩:=Qh hF
      refine op (OpS.storeB (f':=true) h49 (.s (.s .z)) PA.a (Put.of (Put.fld Sample_.f2) e19) ty5 rfl rfl rfl V.int (.inl rfl) (λ w25 h50=>?_))
      refine nil (Run.slim [(0,v0),(1,v1),(5,u1),(6,.int .i64 s1.1),(8,(q1 6))] ⟨rfl,rfl,rfl,rfl,rfl,trivial⟩ ?_)
      exact hj4 (y7.2,d4) _ _ ⟨rfl,(h50.facts (.atm (.s .z) .nil)).picks (.cons (.s .z) (.cons .z (.cons (.s .z) .nil)))⟩ hF
     refine Run.skip (Run.slim [(0,v0),(1,v1),(5,u1),(6,.int .i64 s1.1),(8,(q1 6))] ⟨rfl,rfl,rfl,rfl,rfl,trivial⟩ ?_)
     exact hj4 (s3.1,s3.2) _ _ ⟨rfl,(h25.facts (.atm .z .nil)).picks (.cons .z (.cons (.s .z) (.cons (.s .z) .nil)))⟩ hF
    refine RunL.caseb hF (λ e20 hF=>?_) (λ e20 hF=>?_)
    ·refine op (OpS.fbox (o3:=6) h24 (.s .z) PA.z Qnn rfl rfl rfl rfl ?_)
     refine op (OpS.loadBb h24 (.s .z) PA.a (Get.fld Sensor_.f5) ty4 rfl rfl rfl ?_)
     refine op (OpS.not rfl rfl rfl ?_)
     refine gk rfl (nil (Run.slim [(0,v0),(1,v1),(5,u1),(6,.int .i64 s1.1),(7,u4),(8,(q1 6)),(46,.bool (!x1.Discrete))] ⟨rfl,rfl,rfl,rfl,rfl,rfl,rfl,trivial⟩ ?_))
     exact hj3 (!x1.Discrete) _ _ ⟨rfl,(h24.facts (.atm .z .nil)).picks (.cons .z (.cons .z (.cons .z (.cons .z .nil))))⟩ hF
    refine gp rfl (gp rfl (gp rfl (gk rfl (nil (Run.slim [(0,v0),(1,v1),(5,u1),(6,.int .i64 s1.1),(7,u4),(8,(q1 6)),(46,.bool false)] ⟨rfl,rfl,rfl,rfl,rfl,rfl,rfl,trivial⟩ ?_)))))
    exact hj3 (false) _ _ ⟨rfl,(h24.facts (.atm .z .nil)).picks (.cons .z (.cons .z (.cons .z (.cons .z .nil))))⟩ hF
   refine Run.ite rfl hF (λ e21 hF=>?_) (λ e21 hF=>?_)
   ·obtain ⟨y8,e22,hF⟩:=Qa hF
    refine Run.drawV (Ωs:=[(true,.box 93 Sample_.rep (q1 6) (⟨x1.Number,!y2.1,0,0⟩:Sample_)),(true,.slice 93 Sample_.rep u1 s1.2.2)]) [.k 33 v0,⟨some 34,some (.int .i64 y8.1),λ _=>[],λ ds_ u_=>[(false,.box 163 Qg.rep v0 y8.2)],[0],[],none⟩,.k 35 (.int .u16 (IntKind.u16.wrap y8.1)),.kr 36 (padd u4 23) [1],.kr 37 (.int .u16 x1.States) [1]] [[],[0],[1],[],[3]] [[(false,.box 163 Qg.rep v0 y2.2)],[(false,.box 74 Sensor_.rep u4 x1)]] [1,2,3,4,5,6] Qi rfl rfl rfl h23 (.cons ?_ (.cons ?_ (.cons ?_ (.cons ?_ (.cons ?_ .nil))))) (λ q2 w hq2 h=>?_)
    ·intro q2 w Γx Ωx h
     refine OpS.mv rfl rfl rfl ?_
     exact du h
    ·intro q2 w Γx Ωx h
     have h54:=h.front (.cons .z .nil)
     refine OpS.callO h54 Tryz.func54 rfl rfl rfl rfl (vs:=[v0,.int .i64 32768]) rfl (Qj e22) rfl .nil ?_
     rintro _ w27 _ _ _ ⟨rfl,rfl,rfl,rfl⟩ h55
     have h56:=h55
     simp only [ca,na] at h56
     exact ⟨undef,rfl,trivial,h56⟩
    ·intro q2 w Γx Ωx h
     refine OpS.conv Tryz.underlying3 Tryz.underlying49 rfl rfl rfl ?_
     exact du h
    ·intro q2 w Γx Ωx h
     refine OpS.fbox (o3:=23) h .z PA.z Qen rfl rfl rfl rfl ?_
     exact du h
    ·intro q2 w Γx Ωx h
     refine OpS.loadBi h .z PA.a (Get.fld Sensor_.f10) ty49 rfl rfl rfl ?_
     exact du h
    have h57:=h
    refine gb rfl (op (OpS.fbox (o3:=3) h57 (.s (.s .z)) PA.z Qnw rfl rfl rfl rfl ?_))
    refine op (OpS.storeB (f':=true) h57 (.s (.s .z)) PA.a (Put.fld Sample_.f3) ty49 rfl rfl rfl V.int (.inl rfl) (λ w28 h58=>?_))
    refine nil (Run.slim [(0,v0),(1,v1),(5,u1),(6,.int .i64 s1.1),(7,u4),(8,(q1 6))] ⟨rfl,rfl,rfl,rfl,rfl,rfl,trivial⟩ ?_)
    exact hj2 (y8.2,(⟨x1.Number,!y2.1,0,(bAnd .u16 (IntKind.u16.wrap y8.1) x1.States)⟩:Sample_)) _ _ ⟨rfl,(h58.facts (.atm .z .nil)).picks (.cons (.s (.s .z)) (.cons (.s .z) (.cons .z (.cons .z .nil))))⟩ hF
   refine Run.skip (Run.slim [(0,v0),(1,v1),(5,u1),(6,.int .i64 s1.1),(7,u4),(8,(q1 6))] ⟨rfl,rfl,rfl,rfl,rfl,rfl,trivial⟩ ?_)
   exact hj2 (y2.2,(⟨x1.Number,!y2.1,0,0⟩:Sample_)) _ _ ⟨rfl,(h23.facts (.atm .z .nil)).picks (.cons .z (.cons .z (.cons .z (.cons .z .nil))))⟩ hF
  refine RunL.caseb hF (λ e23 hF=>?_) (λ e23 hF=>?_)
  ·refine op (OpS.fbox (o3:=6) h22 (.s .z) PA.z Qnn rfl rfl rfl rfl ?_)
   refine op (OpS.loadBb h22 (.s .z) PA.a (Get.fld Sensor_.f5) ty4 rfl rfl rfl ?_)
   refine gk rfl (nil (Run.slim [(0,v0),(1,v1),(5,u1),(6,.int .i64 s1.1),(7,u4),(8,(q1 6)),(32,.bool x1.Discrete)] ⟨rfl,rfl,rfl,rfl,rfl,rfl,rfl,trivial⟩ ?_))
   exact hj1 (x1.Discrete) _ _ ⟨rfl,(h22.facts (.atm (.s (.s (.s .z))) .nil)).picks (.cons (.s (.s .z)) (.cons (.s .z) (.cons .z (.cons .z .nil))))⟩ hF
  refine gp rfl (gp rfl (gk rfl (nil (Run.slim [(0,v0),(1,v1),(5,u1),(6,.int .i64 s1.1),(7,u4),(8,(q1 6)),(32,.bool false)] ⟨rfl,rfl,rfl,rfl,rfl,rfl,rfl,trivial⟩ ?_))))
  exact hj1 (false) _ _ ⟨rfl,(h22.facts (.atm (.s (.s (.s .z))) .nil)).picks (.cons (.s (.s .z)) (.cons (.s .z) (.cons .z (.cons .z .nil))))⟩ hF
 refine Run.exit rfl ?_
 refine sr (gm rfl (ga rfl (nil (Run.retP rfl (.tmp rfl .nil) ?_))))
 cases hF
 exact Post.mk' ⟨u1,rfl,rfl,rfl,rfl⟩ (h2.picks (.cons (.s .z) (.cons .z .nil))) .nil
theorem Qkh {fuel:Nat} {a0:Qg} {a1:Int} {y:(List Entity_)×Qg} (hF:Qcu fuel a0 a1=some y) {w:World} {v0:Value} :
  Spec Tryz.prog 17 [v0,.int .i64 a1].toArray w [] [(false,.box 163 Qg.rep v0 a0)] (λ v Γr Ωr Ωo=>∃ u0:Value,v=u0∧Γr=[]∧Ωr=[(true,(.slice 66 Entity_.rep u0 y.1))]∧Ωo=[(false,.box 163 Qg.rep v0 y.2)]):=by
 refine Spec.of (L:=[(0,v0),(1,.int .i64 a1)]) Tryz.func17 rfl ⟨rfl,rfl,trivial⟩ rfl (λ e h=>?_)
 unfold Qcu at hF
 refine sr (ga rfl (nil (sr (ga rfl (nil (Run.seq (sr (gm rfl (gm rfl (gb rfl ?_))))))))))
 obtain ⟨y1,e1,hF⟩:=Qa hF
 have h1:=h.front (.cons .z .nil)
 refine op (OpS.callO h1 Tryz.func54 rfl rfl rfl rfl (vs:=[v0,.int .i64 (IntKind.i64.wrap (a1+1))]) rfl (Qj e1) rfl .nil ?_)
 rintro _ w1 _ _ _ ⟨rfl,rfl,rfl,rfl⟩ h2
 have h3:=h2
 simp only [ca,na] at h3
 refine ga rfl (nil (Run.block ?_))
 have h4:=St.nil 66 Entity_.rep h3
 refine Run.slim [(0,v0),(5,(.slice none 0 0)),(6,.int .i64 y1.1)] ⟨rfl,rfl,rfl,trivial⟩ ?_
 refine Run.loopP (σ:=(Int×Qg×(List Entity_))) (λ s_ L_ w_=>∃ u0_:Value,L_=[(0,v0),(5,u0_),(6,.int .i64 s_.1)]∧St e w_ [] [(false,.box 163 Qg.rep v0 s_.2.1),(true,.slice 66 Entity_.rep u0_ s_.2.2)]) hF ⟨(.slice none 0 0),rfl,(h4.facts .nil).picks (.cons (.s .z) (.cons .z .nil))⟩ (λ k1 hk1 s1 _ w2 hI hF=>?_)
 obtain ⟨u1,rfl,h5⟩:=hI
 refine Run.seq (sr (gm rfl (gb rfl (nil ?_))))
 refine Run.ite rfl hF (λ e2 hF=>?_) (λ e2 hF=>?_)
 ·refine Run.skip (Run.seq (Run.block (Run.reg (gm rfl (gm rfl ?_)))))
  obtain ⟨y2,e3,hF⟩:=Qa hF
  have h6:=h5.front (.cons .z .nil)
  refine op (OpS.callO h6 Tryz.func32 rfl rfl rfl rfl (vs:=[v0]) rfl (Qhj e3) rfl .nil ?_)
  rintro u2 w3 _ _ _ ⟨_,rfl,rfl,rfl,rfl⟩ h7
  have h8:=h7
  simp only [ca,na] at h8
  refine op (OpS.lit (r:=Entity_.rep) (f:=true) h8 Tryz.underlying43 ti66 rfl rfl rfl rfl rfl (.cons rfl (V.at .z) .nil) rfl rfl (λ u3 w4 h9=>?_))
  obtain ⟨x1,e4,hF⟩:=Qa hF
  refine op (OpS.app (f':=true) h9 (.s .z) Tryz.underlying43 ti66 rfl rfl rfl rfl rfl rfl rfl (V.at .z) (.inr Entity_.pure) e4 (λ u4 w5 h10=>?_))
  refine ga rfl (nil (Run.endBlock (Run.reg (gm rfl (gb rfl (ga rfl ?_))))))
  obtain ⟨x2,e5,hF⟩:=Qh hF
  refine RunL.name e5 ?_
  refine nil (Run.slim [(0,v0),(5,u4),(6,.int .i64 x2)] ⟨rfl,rfl,rfl,trivial⟩ ?_)
  exact hk1 (x2,y2.2,x1) _ _ ⟨u4,rfl,(h10.facts .nil).picks (.cons (.s .z) (.cons .z .nil))⟩ hF
 refine Run.exit rfl ?_
 refine sr (gm rfl (ga rfl (nil (Run.retP rfl (.tmp rfl .nil) ?_))))
 cases hF
 exact Post.mk' ⟨u1,rfl,rfl,rfl,rfl⟩ (h5.picks (.cons (.s .z) (.cons .z .nil))) .nil
theorem Qlk {fuel:Nat} {a0:Qc} {a1:Int} {a2:Int} {y:Qc} (hF:Qdq fuel a0 a1 a2=some y) {w:World} {v0 v0_0 v0_1:Value} :
  Spec Tryz.prog 18 [v0,.int .i64 a1,.int .u8 a2].toArray w [] [(false,.box 166 (Qc.repW v0_0 v0_1) v0 a0),(false,.slice 5 (Rep.int .u8) v0_0 a0.bytes),(false,.slice 3 (Rep.int .i64) v0_1 a0.wear)] (λ v Γr Ωr Ωo=>∃ w0_0 w0_1:Value,v=.tuple #[]∧Γr=[]∧Ωr=[]∧Ωo=[(false,.box 166 (Qc.repW w0_0 w0_1) v0 y),(false,(.slice 5 (Rep.int .u8) w0_0 y.bytes)),(false,(.slice 3 (Rep.int .i64) w0_1 y.wear))]):=by
 refine Spec.of (L:=[(0,v0),(1,.int .i64 a1),(2,.int .u8 a2)]) Tryz.func18 rfl ⟨rfl,rfl,rfl,trivial⟩ rfl (λ e h=>?_)
 unfold Qdq at hF
 refine sr (gm rfl (op (OpS.nchk h .z rfl rfl rfl ?_)))
 refine op (OpS.fbox (o3:=6) h .z PA.z Qgc rfl rfl rfl rfl ?_)
 refine op (OpS.loadBb h .z PA.a (GetS.ok (GetS.iso _ (GetS.there (GetS.there (GetS.there (GetS.there (GetS.there (GetS.there (GetS.here GetS.id))))))))) ty4 rfl rfl rfl ?_)
 refine op (OpS.not rfl rfl rfl ?_)
 refine nil ?_
 refine Run.ite rfl hF (λ e1 hF=>?_) (λ e1 hF=>?_)
 ·refine Run.reg (gm rfl (gm rfl (gm rfl (op (OpS.maxi rfl rfl rfl rfl ?_)))))
  refine gm rfl (op (OpS.nchk h .z rfl rfl rfl ?_))
  refine op (OpS.fbox (o3:=4) h .z PA.z Qiy rfl rfl rfl rfl ?_)
  obtain ⟨d1,e2,hF⟩:=Qh hF
  refine op (OpS.storeC (f':=true) (fr:=(Rep.int .i64)) (r':=(Qc.repW v0_0 v0_1)) (x':=d1) h .z PA.a (Chg.of (x':={ a0 with left:=(max a1 0) }) (Chg.iso _ (Chg.there (Chg.there (Chg.there (Chg.there (Chg.here (Chg.id (by rfl)))))))) e2) ty3 rfl rfl rfl V.int (.inr rfl) (λ w1 h1=>?_))
  refine op (OpS.nchk h1 .z rfl rfl rfl ?_)
  refine op (OpS.fbox (o3:=5) h1 .z PA.z Qpt rfl rfl rfl rfl ?_)
  obtain ⟨d2,e3,hF⟩:=Qh hF
  refine op (OpS.storeC (f':=true) (fr:=(Rep.int .u8)) (r':=(Qc.repW v0_0 v0_1)) (x':=d2) h1 .z PA.a (Chg.of (x':={ d1 with torn:=a2 }) (Chg.iso _ (Chg.there (Chg.there (Chg.there (Chg.there (Chg.there (Chg.here (Chg.id (by rfl))))))))) e3) ty5 rfl rfl rfl V.int (.inr rfl) (λ w2 h2=>?_))
  refine nil ?_
  have h3:=St.boxJ (r':=(Qc.repW v0_0 v0_1)) (x':={ { d2 with bytes:=a0.bytes } with wear:=a0.wear }) (h2.pick .z) (λ _ _ hs_=>(Jn.iso _ (Jn.prod Jn.refl (Jn.prod Jn.same (Jn.prod Jn.same Jn.refl)))))
  refine Run.finP rfl .nil ?_
  cases hF
  exact Post.mk' ⟨v0_0,v0_1,rfl,rfl,rfl,rfl⟩ (h3.picks (.cons .z (.cons .z (.cons .z .nil)))) .nil
 refine Run.skip (Run.finP rfl .nil ?_)
 cases hF
 exact Post.mk' ⟨v0_0,v0_1,rfl,rfl,rfl,rfl⟩ (h.picks (.cons .z (.cons .z (.cons .z .nil)))) .nil
theorem Qcp {fuel:Nat} {a0:Qb} {y:(List Event_)} (hF:Qan fuel a0=some y) {w:World} {v0 v0_0 qd v0_1:Value} :
  Spec Tryz.prog 24 [v0].toArray w [] [(false,.box 169 (Qb.repW v0_0 v0_1) v0 a0),(false,.lnk qd v0_0 a0.d),(false,.slice 200 Qe.rep v0_1 a0.records)] (λ v Γr Ωr Ωo=>∃ u0:Value,v=u0∧Γr=[]∧Ωr=[(true,(.slice 55 Event_.rep u0 y))]∧Ωo=[(false,.box 169 (Qb.repW v0_0 v0_1) v0 a0),(false,.lnk qd v0_0 a0.d),(false,(.slice 200 Qe.rep v0_1 a0.records))]):=by
 refine Spec.of (L:=[(0,v0)]) Tryz.func24 rfl ⟨rfl,trivial⟩ rfl (λ e h=>?_)
 unfold Qan at hF
 refine sr (ga rfl (nil (sr (ga rfl (nil (Run.seq (sr (gm rfl (op (OpS.nchk h .z rfl rfl rfl ?_))))))))))
 refine op (OpS.fbox (o3:=8) h .z PA.z Qgv rfl rfl rfl rfl ?_)
 refine op (OpS.loadR h .z PA.a (GetS.ok (GetS.iso _ (GetS.there (GetS.there (GetS.there (GetS.there (GetS.there (GetS.there (GetS.there (GetS.there (GetS.here GetS.id))))))))))) ty167 rfl rfl rfl rfl rfl ?_)
 refine op (OpS.lenO h (.s (.s .z)) Tryz.underlying167 rfl rfl rfl ?_)
 refine gm rfl (nil (Run.block ?_))
 have h1:=St.nil 55 Event_.rep h
 refine Run.slim [(3,(.slice none 0 0)),(9,v0_1),(10,.int .i64 (a0.records.length:Int)),(11,.int .i64 0)] ⟨rfl,rfl,rfl,rfl,trivial⟩ ?_
 refine Run.loopP (σ:=(Int×(List Event_))) (λ s_ L_ w_=>∃ u0_:Value,L_=[(3,u0_),(9,v0_1),(10,.int .i64 (a0.records.length:Int)),(11,.int .i64 s_.1)]∧St e w_ [] [(false,.box 169 (Qb.repW v0_0 v0_1) v0 a0),(true,.slice 55 Event_.rep u0_ s_.2),(false,.slice 200 Qe.rep v0_1 a0.records),(false,.lnk qd v0_0 a0.d)]) hF ⟨(.slice none 0 0),rfl,(h1.facts .nil).picks (.cons (.s .z) (.cons .z (.cons (.s .z) (.cons .z .nil))))⟩ (λ k1 hk1 s1 _ w1 hI hF=>?_)
 obtain ⟨u1,rfl,h2⟩:=hI
 refine sr (gb rfl (nil (Run.seq ?_)))
 refine Run.ite rfl hF (λ e1 hF=>?_) (λ e1 hF=>?_)
 ·refine Run.skip (Run.seq (Run.block (sr ?_)))
  obtain ⟨x1,e2,hF⟩:=Qa hF
  refine op (OpS.iown h2 (.s (.s .z)) Tryz.underlying167 ty200 rfl rfl rfl rfl e2 ?_)
  refine op (OpS.loadO h2 (.s (.s .z)) (Qnl e2) PA.a (Get.arr e2) ty200 rfl rfl rfl (λ u2 h3=>?_))
  refine op (OpS.alloc h3 ti200 Qe.zr rfl rfl (λ u3 w2 h4=>?_))
  have h5:=(h4.pick .z).weak
  refine op (OpS.storeB (f':=false) h5 .z PA.z Put.id ty200 rfl rfl rfl (V.at .z) (.inr rfl) (λ w3 h6=>?_))
  refine nil (Run.reg (gm rfl (op (OpS.fbox (o3:=1) h6 .z PA.z fa200_1 rfl rfl rfl rfl ?_))))
  refine op (OpS.loadB h6 .z PA.a (Get.fld Qe.f1) ty55 rfl rfl rfl (λ u4 h7=>?_))
  refine op (OpS.lit (r:=Event_.rep) (f:=false) h7 Tryz.underlying40 ti55 rfl rfl rfl rfl rfl (.cons rfl (V.at .z) .nil) rfl rfl (λ u5 w4 h8=>?_))
  obtain ⟨x2,e3,hF⟩:=Qa hF
  refine op (OpS.app (f':=false) h8 (.s (.s .z)) Tryz.underlying40 ti55 rfl rfl rfl rfl rfl rfl rfl (V.at .z) (.inr Event_.pure) e3 (λ u6 w5 h9=>?_))
  refine ga rfl (nil (Run.endBlock (Run.reg (gb rfl (gm rfl (nil (Run.slim [(3,u6),(9,v0_1),(10,.int .i64 (a0.records.length:Int)),(11,.int .i64 (IntKind.i64.wrap (s1.1+1)))] ⟨rfl,rfl,rfl,rfl,trivial⟩ ?_)))))))
  exact hk1 ((IntKind.i64.wrap (s1.1+1)),x2) _ _ ⟨u6,rfl,(h9.facts .nil).picks (.cons (.s (.s .z)) (.cons .z (.cons (.s .z) (.cons (.s .z) .nil))))⟩ hF
 refine Run.exit rfl ?_
 refine sr (gm rfl (ga rfl (nil (Run.retP rfl (.tmp rfl .nil) ?_))))
 cases hF
 exact Post.mk' ⟨u1,rfl,rfl,rfl,rfl⟩ (h2.picks (.cons (.s .z) (.cons .z (.cons (.s .z) (.cons .z .nil))))) .nil
theorem Qlr {fuel:Nat} {a0:List Event_} {y:(List Event_)} (hF:Qgu fuel a0=some y) {w:World} {v0:Value} :
  Spec Tryz.prog 23 [v0].toArray w [(false,.val (Rep.slice Event_.rep) v0 a0)] [] (λ v Γr Ωr Ωo=>∃ u0:Value,v=u0∧Γr=[]∧Ωr=[(true,(.slice 55 Event_.rep u0 y))]∧Ωo=[]):=by
 refine Spec.of (L:=[(0,v0)]) Tryz.func23 rfl ⟨rfl,trivial⟩ rfl (λ e h=>?_)
 unfold Qgu at hF
 refine sr (ga rfl (nil (sr (ga rfl (nil (Run.seq (sr (ga rfl (nil (Run.block ?_))))))))))
 have h1:=St.nil 55 Event_.rep h
 refine Run.slim [(0,v0),(3,(.slice none 0 0)),(4,.int .i64 0)] ⟨rfl,rfl,rfl,trivial⟩ ?_
 refine Run.loopP (σ:=(Int×(List Event_))) (λ s_ L_ w_=>∃ u0_:Value,L_=[(0,v0),(3,u0_),(4,.int .i64 s_.1)]∧St e w_ [(false,.val (Rep.slice Event_.rep) v0 a0)] [(true,.slice 55 Event_.rep u0_ s_.2)]) hF ⟨(.slice none 0 0),rfl,(h1.facts (.atm .z .nil)).picks (.cons .z .nil)⟩ (λ k1 hk1 s1 _ w1 hI hF=>?_)
 obtain ⟨u1,rfl,h2⟩:=hI
 refine Run.seq (sr (gm rfl (gm rfl (op (OpS.len h2 Tryz.underlying40 rfl rfl rfl (V.at .z) ?_)))))
 refine gb rfl (nil ?_)
 refine Run.ite rfl hF (λ e1 hF=>?_) (λ e1 hF=>?_)
 ·refine Run.skip (Run.seq (Run.block (sr (gm rfl (gm rfl ?_)))))
  obtain ⟨x1,e2,hF⟩:=Qa hF
  refine op (OpS.iptr h2 Tryz.underlying40 ty55 rfl rfl rfl rfl (V.at .z) e2 (λ u2 h3=>?_))
  refine op (OpS.load h3 ty55 rfl rfl rfl .z (λ u3 h4=>?_))
  refine op (OpS.alloc h4 ti55 Event_.zr rfl rfl (λ u4 w2 h5=>?_))
  have h6:=(h5.pick .z).weak
  refine op (OpS.storeB (f':=false) h6 .z PA.z Put.id ty55 rfl rfl rfl (V.at .z) (.inr rfl) (λ w3 h7=>?_))
  refine nil (sr (op (OpS.fbox (o3:=0) h7 .z PA.z Qnv rfl rfl rfl rfl ?_)))
  obtain ⟨d1,e3,hF⟩:=Qh hF
  refine op (OpS.storeB (f':=true) h7 .z PA.a (Put.of (Put.fld Event_.f0) e3) ty49 rfl rfl rfl V.int (.inr rfl) (λ w4 h8=>?_))
  refine nil (Run.reg (gm rfl (op (OpS.loadB h8 .z PA.z Get.id ty55 rfl rfl rfl (λ u5 h9=>?_)))))
  refine op (OpS.lit (r:=Event_.rep) (f:=false) h9 Tryz.underlying40 ti55 rfl rfl rfl rfl rfl (.cons rfl (V.at .z) .nil) rfl rfl (λ u6 w5 h10=>?_))
  obtain ⟨x2,e4,hF⟩:=Qa hF
  refine op (OpS.app (f':=false) h10 (.s .z) Tryz.underlying40 ti55 rfl rfl rfl rfl rfl rfl rfl (V.at .z) (.inr Event_.pure) e4 (λ u7 w6 h11=>?_))
  refine ga rfl (nil (Run.endBlock (Run.reg (gm rfl (gb rfl (ga rfl ?_))))))
  obtain ⟨x3,e5,hF⟩:=Qh hF
  refine RunL.name e5 ?_
  refine nil (Run.slim [(0,v0),(3,u7),(4,.int .i64 x3)] ⟨rfl,rfl,rfl,trivial⟩ ?_)
  exact hk1 (x3,x2) _ _ ⟨u7,rfl,(h11.facts (.atm (.s (.s (.s (.s .z)))) .nil)).picks (.cons .z .nil)⟩ hF
 refine Run.exit rfl ?_
 refine sr (gm rfl (ga rfl (nil (Run.retP rfl (.tmp rfl .nil) ?_))))
 cases hF
 exact Post.mk' ⟨u1,rfl,rfl,rfl,rfl⟩ (h2.picks (.cons .z .nil)) .nil
set_option maxRecDepth 20000 in
theorem Qim {fuel:Nat} {a0:List Event_} {a1:List Event_} {y:Bool} (hF:Qdl fuel a0 a1=some y) {w:World} {v0 v1:Value} :
  Spec Tryz.prog 22 [v0,v1].toArray w [(false,.val (Rep.slice Event_.rep) v0 a0),(false,.val (Rep.slice Event_.rep) v1 a1)] [] (λ v Γr Ωr Ωo=>v=.bool y∧Γr=[]∧Ωr=[]∧Ωo=[]):=by
 refine Spec.of (L:=[(0,v0),(1,v1)]) Tryz.func22 rfl ⟨rfl,rfl,trivial⟩ rfl (λ e h=>?_)
 unfold Qdl at hF
 refine sr (ga rfl (nil (Run.seq (sr (gm rfl (op (OpS.len h Tryz.underlying40 rfl rfl rfl (V.at .z) ?_)))))))
 refine gm rfl (op (OpS.len h Tryz.underlying40 rfl rfl rfl (V.at (.s .z)) ?_))
 refine gb rfl (nil ?_)
 refine Run.ite rfl hF (λ e1 hF=>?_) (λ e1 hF=>?_)
 ·refine sr (ga rfl (nil (Run.retP rfl (.tmp rfl .nil) ?_)))
  cases hF
  exact Post.mk' ⟨rfl,rfl,rfl,rfl⟩ (h.picks .nil) .nil
 refine Run.skip (Run.seq (sr (ga rfl (nil (Run.block (Run.slim [(0,v0),(1,v1),(5,.int .i64 0)] ⟨rfl,rfl,rfl,trivial⟩ ?_))))))
 refine Run.loopP (σ:=Int) (λ s_ L_ w_=>L_=[(0,v0),(1,v1),(5,.int .i64 s_)]∧St e w_ [(false,.val (Rep.slice Event_.rep) v0 a0),(false,.val (Rep.slice Event_.rep) v1 a1)] []) hF ⟨rfl,(h.facts (.atm .z (.atm (.s .z) .nil))).picks .nil⟩ (λ k1 hk1 s1 _ w1 hI hF=>?_)
 obtain ⟨rfl,h1⟩:=hI
 refine Run.seq (sr (gm rfl (gm rfl (op (OpS.len h1 Tryz.underlying40 rfl rfl rfl (V.at .z) ?_)))))
 refine gb rfl (nil ?_)
 refine Run.ite rfl hF (λ e2 hF=>?_) (λ e2 hF=>?_)
 ·refine Run.skip (Run.seq (Run.block (Run.seq ?_)))
  obtain ⟨x1,e3,hF⟩:=Qa hF
  obtain ⟨x2,e4,hF⟩:=Qa hF
  refine Run.drawV (Ωs:=[]) [.k 17 v0,.k 18 (.int .i64 s1),.f 19 (λ u_=>[(false,.ptr Event_.rep u_ x1)]),.f 20 (λ u_=>[(false,.val Event_.rep u_ x1)]),.k 21 v1,.k 22 (.int .i64 s1),.f 23 (λ u_=>[(false,.ptr Event_.rep u_ x2)]),.f 24 (λ u_=>[(false,.val Event_.rep u_ x2)])] [[],[],[0,1],[2],[],[],[4,5],[6]] [] [0,1,2,3,4,5,6,7] Qi rfl rfl rfl h1 (.cons ?_ (.cons ?_ (.cons ?_ (.cons ?_ (.cons ?_ (.cons ?_ (.cons ?_ (.cons ?_ .nil)))))))) (λ q1 w hq1 h=>?_)
  ·intro q1 w Γx Ωx h
   refine OpS.mv rfl rfl rfl ?_
   exact du h
  ·intro q1 w Γx Ωx h
   refine OpS.mv rfl rfl rfl ?_
   exact du h
  ·intro q1 w Γx Ωx h
   refine OpS.iptr h Tryz.underlying40 ty55 rfl rfl rfl rfl (V.at .z) e3 (λ u h6=>?_)
   exact ⟨u,rfl,trivial,h6⟩
  ·intro q1 w Γx Ωx h
   refine OpS.load h ty55 rfl rfl rfl .z (λ u h7=>?_)
   exact ⟨u,rfl,trivial,h7⟩
  ·intro q1 w Γx Ωx h
   refine OpS.mv rfl rfl rfl ?_
   exact du h
  ·intro q1 w Γx Ωx h
   refine OpS.mv rfl rfl rfl ?_
   exact du h
  ·intro q1 w Γx Ωx h
   refine OpS.iptr h Tryz.underlying40 ty55 rfl rfl rfl rfl (V.at (.s .z)) e4 (λ u h8=>?_)
   exact ⟨u,rfl,trivial,h8⟩
  ·intro q1 w Γx Ωx h
   refine OpS.load h ty55 rfl rfl rfl .z (λ u h9=>?_)
   exact ⟨u,rfl,trivial,h9⟩
  have h10:=h
  refine op (OpS.neA h10 eqt55 rfl gdf55 rfl rfl rfl rfl rfl (V.at (.s .z)) (V.at (.s (.s (.s .z)))) ?_)
  refine nil ?_
  refine Run.ite rfl hF (λ e5 hF=>?_) (λ e5 hF=>?_)
  ·refine sr (ga rfl (nil (Run.retP rfl (.tmp rfl .nil) ?_)))
   cases hF
   exact Post.mk' ⟨rfl,rfl,rfl,rfl⟩ (h10.picks .nil) .nil
  refine Run.skip (Run.endBlock (Run.reg (gm rfl (gb rfl (ga rfl ?_)))))
  obtain ⟨x3,e6,hF⟩:=Qh hF
  refine RunL.name e6 ?_
  refine nil (Run.slim [(0,v0),(1,v1),(5,.int .i64 x3)] ⟨rfl,rfl,rfl,trivial⟩ ?_)
  exact hk1 (x3) _ _ ⟨rfl,(h10.facts (.atm (.s (.s (.s (.s .z)))) (.atm (.s (.s (.s (.s (.s .z))))) .nil))).picks .nil⟩ hF
 refine Run.exit rfl ?_
 refine sr (ga rfl (nil (Run.retP rfl (.tmp rfl .nil) ?_)))
 cases hF
 exact Post.mk' ⟨rfl,rfl,rfl,rfl⟩ (h1.picks .nil) .nil
theorem Qjr {fuel:Nat} {a0:Qc} {y:Qc} (hF:Qcg fuel a0=some y) {w:World} {v0 v0_0 v0_1:Value} :
  Spec Tryz.prog 25 [v0].toArray w [] [(false,.box 166 (Qc.repW v0_0 v0_1) v0 a0),(false,.slice 5 (Rep.int .u8) v0_0 a0.bytes),(false,.slice 3 (Rep.int .i64) v0_1 a0.wear)] (λ v Γr Ωr Ωo=>∃ w0_0 w0_1:Value,v=.tuple #[]∧Γr=[]∧Ωr=[]∧Ωo=[(false,.box 166 (Qc.repW w0_0 w0_1) v0 y),(false,(.slice 5 (Rep.int .u8) w0_0 y.bytes)),(false,(.slice 3 (Rep.int .i64) w0_1 y.wear))]):=by
 refine Spec.of (L:=[(0,v0)]) Tryz.func25 rfl ⟨rfl,trivial⟩ rfl (λ e h=>?_)
 unfold Qcg at hF
 refine Run.reg (gm rfl (gm rfl (op (OpS.nchk h .z rfl rfl rfl ?_))))
 refine op (OpS.fbox (o3:=6) h .z PA.z Qgc rfl rfl rfl rfl ?_)
 obtain ⟨d1,e1,hF⟩:=Qh hF
 refine op (OpS.storeC (f':=true) (fr:=Rep.bool) (r':=(Qc.repW v0_0 v0_1)) (x':=d1) h .z PA.a (Chg.of (x':={ a0 with down:=false }) (Chg.iso _ (Chg.there (Chg.there (Chg.there (Chg.there (Chg.there (Chg.there (Chg.here (Chg.id (by rfl)))))))))) e1) ty4 rfl rfl rfl V.bool (.inr rfl) (λ w1 h1=>?_))
 refine op (OpS.nchk h1 .z rfl rfl rfl ?_)
 refine op (OpS.fbox (o3:=4) h1 .z PA.z Qiy rfl rfl rfl rfl ?_)
 obtain ⟨d2,e2,hF⟩:=Qh hF
 refine op (OpS.storeC (f':=true) (fr:=(Rep.int .i64)) (r':=(Qc.repW v0_0 v0_1)) (x':=d2) h1 .z PA.a (Chg.of (x':={ d1 with left:=0 }) (Chg.iso _ (Chg.there (Chg.there (Chg.there (Chg.there (Chg.here (Chg.id (by rfl)))))))) e2) ty3 rfl rfl rfl V.int (.inr rfl) (λ w2 h2=>?_))
 refine nil ?_
 have h3:=St.boxJ (r':=(Qc.repW v0_0 v0_1)) (x':={ { d2 with bytes:=a0.bytes } with wear:=a0.wear }) (h2.pick .z) (λ _ _ hs_=>(Jn.iso _ (Jn.prod Jn.refl (Jn.prod Jn.same (Jn.prod Jn.same Jn.refl)))))
 refine Run.finP rfl .nil ?_
 cases hF
 exact Post.mk' ⟨v0_0,v0_1,rfl,rfl,rfl,rfl⟩ (h3.picks (.cons .z (.cons .z (.cons .z .nil)))) .nil
theorem Qjh {fuel:Nat} {a0:Qd} {a1:Int} {y:Int×Bool} (hF:Qbz fuel a0 a1=some y) {w:World} {v0 v0_0 v0_1:Value} :
  Spec Tryz.prog 28 [v0,.int .u8 a1].toArray w [] [(false,.box 184 (Qd.repW v0_0 v0_1) v0 a0),(false,.slice 188 Filter_.rep v0_0 a0.filters),(false,.slice 49 (Rep.int .u16) v0_1 a0.states)] (λ v Γr Ωr Ωo=>v=.tuple #[.int .u16 y.1,.bool y.2]∧Γr=[]∧Ωr=[]∧Ωo=[(false,.box 184 (Qd.repW v0_0 v0_1) v0 a0),(false,(.slice 188 Filter_.rep v0_0 a0.filters)),(false,(.slice 49 (Rep.int .u16) v0_1 a0.states))]):=by
 refine Spec.of (L:=[(0,v0),(1,.int .u8 a1)]) Tryz.func28 rfl ⟨rfl,rfl,trivial⟩ rfl (λ e h=>?_)
 unfold Qbz at hF
 refine sr (ga rfl (ga rfl (nil (sr (gm rfl (gm rfl ?_))))))
 obtain ⟨y1,e1,hF⟩:=Qa hF
 have h1:=h.front (.cons .z (.cons .z (.cons .z .nil)))
 refine op (OpS.callO h1 Tryz.func94 rfl rfl rfl rfl (vs:=[v0,.int .u8 a1]) rfl (Qeb e1) rfl .nil ?_)
 rintro _ w1 _ _ _ ⟨rfl,rfl,rfl,rfl⟩ h2
 have h3:=h2
 simp only [ca,na] at h3
 refine ga rfl (nil (Run.seq (sr (gm rfl (gb rfl (nil ?_))))))
 refine Run.ite rfl hF (λ e2 hF=>?_) (λ e2 hF=>?_)
 ·refine sr (ga rfl (ga rfl (nil (Run.retP rfl (.tmp rfl (.tmp rfl .nil)) ?_))))
  cases hF
  exact Post.mk' ⟨rfl,rfl,rfl,rfl⟩ (h3.picks (.cons .z (.cons .z (.cons .z .nil)))) .nil
 refine Run.skip (sr (gm rfl (op (OpS.nchk h3 .z rfl rfl rfl ?_))))
 refine op (OpS.fbox (o3:=3) h3 .z PA.z Qjb rfl rfl rfl rfl ?_)
 refine op (OpS.loadR h3 .z PA.a (GetS.ok (GetS.iso _ (GetS.there (GetS.there (GetS.there (GetS.here GetS.id)))))) ty60 rfl rfl rfl rfl rfl ?_)
 refine gm rfl ?_
 obtain ⟨x1,e3,hF⟩:=Qa hF
 refine op (OpS.iown h3 (.s (.s .z)) Tryz.underlying60 ty49 rfl rfl rfl rfl e3 ?_)
 refine op (OpS.loadOi h3 (.s (.s .z)) (Qnl e3) PA.a (Get.arr e3) ty49 rfl rfl rfl ?_)
 refine ga rfl (ga rfl (nil (Run.retP rfl (.tmp rfl (.tmp rfl .nil)) ?_)))
 cases hF
 exact Post.mk' ⟨rfl,rfl,rfl,rfl⟩ (h3.picks (.cons .z (.cons .z (.cons .z .nil)))) .nil
set_option maxHeartbeats 8000000 in set_option maxRecDepth 20000 in
theorem Qmo {fuel:Nat} {a0:List Int} {a1:List (List Int)} {a2:List Int} {a3:List Int} {y:Bool} (hF:Qgm fuel a0 a1 a2 a3=some y) {w:World} {v0 v1 v2 v3:Value} :
  Spec Tryz.prog 3 [v0,v1,v2,v3].toArray w [(false,.val (Rep.slice (Rep.int .i64)) v0 a0),(false,.val (Rep.slice (Rep.slice (Rep.int .i64))) v1 a1),(false,.val (Rep.slice (Rep.int .i64)) v2 a2),(false,.val (Rep.slice (Rep.int .u8)) v3 a3),Gqs] [] (λ v Γr Ωr Ωo=>v=.bool y∧Γr=[]∧Ωr=[]∧Ωo=[]):=by
 refine Spec.of (L:=[(0,v0),(1,v1),(2,v2),(3,v3)]) Tryz.func3 rfl ⟨rfl,rfl,rfl,rfl,trivial⟩ rfl (λ e h=>?_)
 unfold Qgm at hF
 refine sr (ga rfl (nil (Run.seq (sr ?_))))
 obtain ⟨y1,e1,hF⟩:=Qa hF
 refine op (OpS.callP h Tryz.func9 rfl rfl rfl rfl (vs:=[]) rfl (Qrm e1) (.ptr (.s (.s (.s (.s .z)))) .nil) ?_)
 rintro _ w1 _ _ _ ⟨rfl,rfl,rfl,rfl⟩ h1
 have h2:=h1 rfl rfl
 simp only [ca,na] at h2
 refine op (OpS.not rfl rfl rfl ?_)
 refine nil ?_
 refine Run.ite rfl hF (λ e2 hF=>?_) (λ e2 hF=>?_)
 ·refine sr (ga rfl (nil (Run.retP rfl (.tmp rfl .nil) ?_)))
  cases hF
  exact Post.mk' ⟨rfl,rfl,rfl,rfl⟩ (h2.picks .nil) .nil
 refine Run.skip (Run.seq (sr (gm rfl ?_)))
 obtain ⟨y2,e3,hF⟩:=Qa hF
 refine op (OpS.callP h2 Tryz.func10 rfl rfl rfl rfl (vs:=[v0]) rfl (Qqu e3) (.cons (f:=false) (V.at .z) .nil) ?_)
 rintro _ w2 _ _ _ ⟨rfl,rfl,rfl,rfl⟩ h3
 have h4:=h3 rfl rfl
 simp only [ca,na] at h4
 refine op (OpS.not rfl rfl rfl ?_)
 refine gm rfl ?_
 refine RunL.join (σ:=Bool) (λ s_ L_ w_=>L_=[(0,v0),(1,v1),(2,v2),(3,v3),(49,.bool s_)]∧St e w_ [(false,.val (Rep.slice (Rep.int .i64)) v0 a0),(false,.val (Rep.slice (Rep.slice (Rep.int .i64))) v1 a1),(false,.val (Rep.slice (Rep.int .i64)) v2 a2),(false,.val (Rep.slice (Rep.int .u8)) v3 a3),Gqs] []) hF (λ s1 _ w3 hI hF=>?_) (λ j1 hj1 hF=>?_)
 ·obtain ⟨rfl,h5⟩:=hI
  refine Run.ite rfl hF (λ e4 hF=>?_) (λ e4 hF=>?_)
  ·refine sr (ga rfl (nil (Run.retP rfl (.tmp rfl .nil) ?_)))
   cases hF
   exact Post.mk' ⟨rfl,rfl,rfl,rfl⟩ (h5.picks .nil) .nil
  refine Run.skip (sr (gm rfl ?_))
  obtain ⟨y3,e5,hF⟩:=Qa hF
  have h6:=h5.front .nil
  refine op (OpS.callO h6 Tryz.func12 rfl rfl rfl rfl (vs:=[v0]) rfl (Qjf e5) rfl (.cons (f:=false) (V.at .z) .nil) ?_)
  rintro u1 w4 _ _ _ ⟨_,rfl,rfl,rfl,rfl⟩ h7
  have h8:=h7
  simp only [ca,na] at h8
  obtain ⟨y4,e6,hF⟩:=Qa hF
  have h9:=h8.front (.cons .z .nil)
  refine op (OpS.callO h9 Tryz.func11 rfl rfl rfl rfl (vs:=[u1,.int .i64 4]) rfl (Qng e6) rfl .nil ?_)
  rintro u2 w5 _ _ _ ⟨_,rfl,rfl,rfl,rfl⟩ h10
  have h11:=h10
  simp only [ca,na] at h11
  refine ga rfl ?_
  have h12:=(h11.pick .z).freeze
  refine nil (sr ?_)
  obtain ⟨y5,e7,hF⟩:=Qa hF
  refine op (OpS.callP h12 Tryz.func13 rfl rfl rfl rfl (vs:=[.int .i64 14,.int .i64 1024]) rfl (Qlw e7) .nil ?_)
  rintro _ w6 _ _ _ ⟨u3,rfl,rfl,rfl,rfl⟩ h13
  have h14:=h13 rfl rfl
  simp only [ca,na] at h14
  refine gm rfl (op (OpS.ext rfl rfl rfl rfl ?_))
  refine op (OpS.ext rfl rfl rfl rfl ?_)
  refine ga rfl (ga rfl (nil (Run.seq (sr (gm rfl (op (OpS.onilE2 h14 .z (λ _=>PtrOf.ex λ _=>PtrOf.ex λ _=>PtrOf.sep PtrOf.box) Tryz.underlying31 rfl rfl rfl rfl ?_)))))))
  refine gm rfl ?_
  refine RunL.join (σ:=Bool) (λ s_ L_ w_=>L_=[(0,v0),(1,v1),(2,v2),(3,v3),(9,u2),(10,u3),(62,.bool s_)]∧St e w_ [(false,.val (Rep.slice (Rep.int .i64)) v0 a0),(false,.val (Rep.slice (Rep.slice (Rep.int .i64))) v1 a1),(false,.val (Rep.slice (Rep.int .i64)) v2 a2),(false,.val (Rep.slice (Rep.int .u8)) v3 a3),(true,.val (Rep.slice Sensor_.rep) u2 y4.1),Gqs] [(true,.opt (Qc.mem u3) u3 y5.1)]) hF (λ s2 _ w7 hI hF=>?_) (λ j2 hj2 hF=>?_)
  ·obtain ⟨rfl,h15⟩:=hI
   refine Run.ite rfl hF (λ e8 hF=>?_) (λ e8 hF=>?_)
   ·refine sr (ga rfl (nil (Run.retP rfl (.tmp rfl .nil) ?_)))
    cases hF
    exact Post.mk' ⟨rfl,rfl,rfl,rfl⟩ (h15.picks .nil) .nil
   refine Run.skip (sr (gm rfl ?_))
   obtain ⟨x1,e9,hF⟩:=Qa hF
   have h16:=St.unopt (h15.pick .z) e9
   obtain ⟨u4,h17⟩:=h16.unex
   obtain ⟨u5,h18⟩:=h17.unex
   have h19:=h18.unsep
   have h20:=(h19.pick (.s .z)).unsep
   obtain ⟨y6,e10,hF⟩:=Qa hF
   have h21:=(h20.pick (.s (.s .z))).weak
   have h22:=(h21.pick (.s .z)).weak
   have h23:=(h22.pick (.s (.s .z))).weak
   have h24:=h23.front (.cons (.s (.s .z)) (.cons (.s .z) (.cons .z .nil)))
   refine op (OpS.callO h24 Tryz.func14 rfl rfl rfl rfl (vs:=[u3,.int .i64 2,.int .i64 12,.bool false]) rfl (Qgn e10) rfl .nil ?_)
   rintro _ w8 _ _ _ ⟨u6,rfl,rfl,rfl,rfl⟩ h25
   have h26:=h25
   simp only [ca,na] at h26
   refine gm rfl (op (OpS.ext rfl rfl rfl rfl ?_))
   refine op (OpS.ext rfl rfl rfl rfl ?_)
   refine ga rfl (ga rfl (nil (sr (gm rfl ?_))))
   obtain ⟨y7,e11,hF⟩:=Qa hF
   have h27:=h26.front .nil
   refine op (OpS.callO h27 Tryz.func15 rfl rfl rfl rfl (vs:=[u2,.slice none 0 0]) rfl (Qlf e11) rfl (.cons (f:=true) (V.at (.s (.s (.s (.s .z))))) (.cons (f:=true) V.nil (.ptr (.s (.s (.s (.s (.s .z))))) .nil))) ?_)
   rintro u7 w9 _ _ _ ⟨_,rfl,rfl,rfl,rfl⟩ h28
   have h29:=h28
   simp only [ca,na] at h29
   refine ga rfl (nil (Run.seq (sr (gm rfl (op (OpS.onilE2 h29 (.s .z) (λ _=>PtrOf.ex λ _=>PtrOf.ex λ _=>PtrOf.sep PtrOf.box) Tryz.underlying35 rfl rfl rfl rfl ?_))))))
   refine gm rfl ?_
   refine RunL.join (σ:=Bool) (λ s_ L_ w_=>L_=[(0,v0),(1,v1),(2,v2),(3,v3),(9,u2),(10,u3),(12,u6),(13,u7),(79,.bool s_)]∧St e w_ [(false,.val (Rep.slice (Rep.int .i64)) v0 a0),(false,.val (Rep.slice (Rep.slice (Rep.int .i64))) v1 a1),(false,.val (Rep.slice (Rep.int .i64)) v2 a2),(false,.val (Rep.slice (Rep.int .u8)) v3 a3),(true,.val (Rep.slice Sensor_.rep) u2 y4.1),Gqs] [(false,.box 166 (Qc.repW u4 u5) u3 x1),(false,.opt (Qb.mem u3 u6) u6 y6.1),(false,.opt (Qd.mem u7) u7 y7),(false,.slice 5 (Rep.int .u8) u4 x1.bytes),(false,.slice 3 (Rep.int .i64) u5 x1.wear)]) hF (λ s3 _ w10 hI hF=>?_) (λ j3 hj3 hF=>?_)
   ·obtain ⟨rfl,h30⟩:=hI
    refine Run.ite rfl hF (λ e12 hF=>?_) (λ e12 hF=>?_)
    ·refine sr (ga rfl (nil (Run.retP rfl (.tmp rfl .nil) ?_)))
     cases hF
     exact Post.mk' ⟨rfl,rfl,rfl,rfl⟩ (h30.picks .nil) .nil
    refine Run.skip (sr (ga rfl (nil (Run.seq (sr (ga rfl (nil (Run.block ?_))))))))
    have h31:=St.nil 55 Event_.rep h30
    refine Run.slim [(0,v0),(1,v1),(2,v2),(3,v3),(9,u2),(10,u3),(12,u6),(13,u7),(14,(.slice none 0 0)),(15,.int .i64 0)] ⟨rfl,rfl,rfl,rfl,rfl,rfl,rfl,rfl,rfl,rfl,trivial⟩ ?_
    refine Run.loopP (σ:=(Int×Qc×(List Event_)×(Option Qb)×(Option Qd))) (λ s_ L_ w_=>∃ u0_ u1_ u2_ u3_ u4_:Value,L_=[(0,v0),(1,v1),(2,v2),(3,v3),(9,u2),(10,u3),(12,u3_),(13,u4_),(14,u0_),(15,.int .i64 s_.1)]∧St e w_ [(false,.val (Rep.slice (Rep.int .i64)) v0 a0),(false,.val (Rep.slice (Rep.slice (Rep.int .i64))) v1 a1),(false,.val (Rep.slice (Rep.int .i64)) v2 a2),(false,.val (Rep.slice (Rep.int .u8)) v3 a3),(true,.val (Rep.slice Sensor_.rep) u2 y4.1),Gqs] [(false,.box 166 (Qc.repW u1_ u2_) u3 s_.2.1),(true,.slice 55 Event_.rep u0_ s_.2.2.1),(false,.slice 5 (Rep.int .u8) u1_ s_.2.1.bytes),(false,.slice 3 (Rep.int .i64) u2_ s_.2.1.wear),(false,.opt (Qb.mem u3 u3_) u3_ s_.2.2.2.1),(false,.opt (Qd.mem u4_) u4_ s_.2.2.2.2)]) hF ⟨(.slice none 0 0),u4,u5,u6,u7,rfl,(h31.facts (.atm .z (.atm (.s .z) (.atm (.s (.s .z)) (.atm (.s (.s (.s .z))) (.atm (.s (.s (.s (.s .z)))) (.atm (.s (.s (.s (.s (.s .z))))) .nil))))))).picks (.cons (.s .z) (.cons .z (.cons (.s (.s .z)) (.cons (.s (.s .z)) (.cons .z (.cons .z .nil))))))⟩ (λ k1 hk1 s4 _ w11 hI hF=>?_)
    obtain ⟨u8,u9,u10,u11,u12,rfl,h32⟩:=hI
    refine Run.seq (sr (gm rfl (gm rfl (op (OpS.len h32 Tryz.underlying23 rfl rfl rfl (V.at (.s .z)) ?_)))))
    refine gb rfl (nil ?_)
    refine Run.ite rfl hF (λ e13 hF=>?_) (λ e13 hF=>?_)
    ·refine Run.skip (Run.seq (Run.block (sr (gm rfl ?_))))
     obtain ⟨y8,e14,hF⟩:=Qa hF
     have h33:=h32.front .nil
     refine op (OpS.callO h33 Tryz.func12 rfl rfl rfl rfl (vs:=[v0]) rfl (Qjf e14) rfl (.cons (f:=false) (V.at .z) .nil) ?_)
     rintro u13 w12 _ _ _ ⟨_,rfl,rfl,rfl,rfl⟩ h34
     have h35:=h34
     simp only [ca,na] at h35
     refine ga rfl (nil (Run.seq (sr (gm rfl (gm rfl (op (OpS.len h35 Tryz.underlying23 rfl rfl rfl (V.at (.s .z)) ?_)))))))
     refine gb rfl (nil ?_)
     refine Run.join (σ:=((Option Qg))) (λ s_ L_ w_=>∃ u0_:Value,L_=[(0,v0),(1,v1),(2,v2),(3,v3),(9,u2),(10,u3),(12,u11),(13,u12),(14,u8),(15,.int .i64 s4.1),(16,u0_)]∧St e w_ [(false,.val (Rep.slice (Rep.int .i64)) v0 a0),(false,.val (Rep.slice (Rep.slice (Rep.int .i64))) v1 a1),(false,.val (Rep.slice (Rep.int .i64)) v2 a2),(false,.val (Rep.slice (Rep.int .u8)) v3 a3),(true,.val (Rep.slice Sensor_.rep) u2 y4.1),Gqs] [(false,.box 166 (Qc.repW u9 u10) u3 s4.2.1),(false,.opt (Qb.mem u3 u11) u11 s4.2.2.2.1),(false,.opt (Qd.mem u12) u12 s4.2.2.2.2),(true,.slice 55 Event_.rep u8 s4.2.2.1),(false,.slice 5 (Rep.int .u8) u9 s4.2.1.bytes),(false,.slice 3 (Rep.int .i64) u10 s4.2.1.wear),(false,.opt (λ x_=>.box 163 Qg.rep u0_ x_) u0_ s_)]) hF (λ s5 _ w13 hI hF=>?_) (λ j4 hj4 hF=>?_)
     ·obtain ⟨u14,rfl,h36⟩:=hI
      refine sr (gm rfl (gm rfl ?_))
      obtain ⟨x2,e15,hF⟩:=Qa hF
      have h37:=St.unopt (h36.pick (.s (.s (.s (.s (.s (.s .z))))))) e15
      obtain ⟨y9,e16,hF⟩:=Qa hF
      have h38:=h37.front (.cons .z .nil)
      refine op (OpS.callO h38 Tryz.func16 rfl rfl rfl rfl (vs:=[u14,u2]) rfl (Qla e16) rfl (.cons (f:=true) (V.at (.s (.s (.s (.s .z))))) .nil) ?_)
      rintro u15 w14 _ _ _ ⟨_,rfl,rfl,rfl,rfl⟩ h39
      have h40:=h39
      simp only [ca,na] at h40
      refine gm rfl ?_
      obtain ⟨y10,e17,hF⟩:=Qa hF
      have h41:=h40.front (.cons (.s .z) .nil)
      refine op (OpS.callO h41 Tryz.func17 rfl rfl rfl rfl (vs:=[u14,.int .i64 1]) rfl (Qkh e17) rfl .nil ?_)
      rintro u16 w15 _ _ _ ⟨_,rfl,rfl,rfl,rfl⟩ h42
      have h43:=h42
      simp only [ca,na] at h43
      refine ga rfl ?_
      have h44:=(h43.pick (.s (.s .z))).freeze
      refine ga rfl ?_
      have h45:=(h44.pick .z).freeze
      refine nil (sr (ga rfl (nil (Run.seq (sr (gm rfl (gm rfl (op (OpS.len h45 Tryz.underlying24 rfl rfl rfl (V.at (.s (.s (.s (.s (.s .z)))))) ?_)))))))))
      refine gb rfl (nil ?_)
      refine Run.join (σ:=Int) (λ s_ L_ w_=>L_=[(0,v0),(1,v1),(2,v2),(3,v3),(9,u2),(10,u3),(12,u11),(13,u12),(14,u8),(15,.int .i64 s4.1),(17,u15),(18,u16),(19,.int .u8 s_)]∧St e w_ [(false,.val (Rep.slice (Rep.int .i64)) v0 a0),(false,.val (Rep.slice (Rep.slice (Rep.int .i64))) v1 a1),(false,.val (Rep.slice (Rep.int .i64)) v2 a2),(false,.val (Rep.slice (Rep.int .u8)) v3 a3),(true,.val (Rep.slice Sensor_.rep) u2 y4.1),(true,.val (Rep.slice Sample_.rep) u15 y9.1),(true,.val (Rep.slice Entity_.rep) u16 y10.1),Gqs] [(false,.box 166 (Qc.repW u9 u10) u3 s4.2.1),(false,.opt (Qb.mem u3 u11) u11 s4.2.2.2.1),(false,.opt (Qd.mem u12) u12 s4.2.2.2.2),(true,.slice 55 Event_.rep u8 s4.2.2.1),(false,.slice 5 (Rep.int .u8) u9 s4.2.1.bytes),(false,.slice 3 (Rep.int .i64) u10 s4.2.1.wear)]) hF (λ s6 _ w16 hI hF=>?_) (λ j5 hj5 hF=>?_)
      ·obtain ⟨rfl,h46⟩:=hI
       refine Run.seq (sr (gm rfl (gm rfl (op (OpS.len h46 Tryz.underlying22 rfl rfl rfl (V.at (.s (.s .z))) ?_)))))
       refine gb rfl (gm rfl ?_)
       refine RunL.join (σ:=Bool) (λ s_ L_ w_=>L_=[(0,v0),(1,v1),(2,v2),(3,v3),(9,u2),(10,u3),(12,u11),(13,u12),(14,u8),(15,.int .i64 s4.1),(17,u15),(18,u16),(19,.int .u8 s6),(125,.bool s_)]∧St e w_ [(false,.val (Rep.slice (Rep.int .i64)) v0 a0),(false,.val (Rep.slice (Rep.slice (Rep.int .i64))) v1 a1),(false,.val (Rep.slice (Rep.int .i64)) v2 a2),(false,.val (Rep.slice (Rep.int .u8)) v3 a3),(true,.val (Rep.slice Sensor_.rep) u2 y4.1),(true,.val (Rep.slice Sample_.rep) u15 y9.1),(true,.val (Rep.slice Entity_.rep) u16 y10.1),Gqs] [(false,.box 166 (Qc.repW u9 u10) u3 s4.2.1),(false,.opt (Qb.mem u3 u11) u11 s4.2.2.2.1),(false,.opt (Qd.mem u12) u12 s4.2.2.2.2),(true,.slice 55 Event_.rep u8 s4.2.2.1),(false,.slice 5 (Rep.int .u8) u9 s4.2.1.bytes),(false,.slice 3 (Rep.int .i64) u10 s4.2.1.wear)]) hF (λ s7 _ w17 hI hF=>?_) (λ j6 hj6 hF=>?_)
       ·obtain ⟨rfl,h47⟩:=hI
        refine Run.join (σ:=Qc) (λ s_ L_ w_=>∃ u0_ u1_:Value,L_=[(0,v0),(1,v1),(2,v2),(3,v3),(9,u2),(10,u3),(12,u11),(13,u12),(14,u8),(15,.int .i64 s4.1),(17,u15),(18,u16)]∧St e w_ [(false,.val (Rep.slice (Rep.int .i64)) v0 a0),(false,.val (Rep.slice (Rep.slice (Rep.int .i64))) v1 a1),(false,.val (Rep.slice (Rep.int .i64)) v2 a2),(false,.val (Rep.slice (Rep.int .u8)) v3 a3),(true,.val (Rep.slice Sensor_.rep) u2 y4.1),(true,.val (Rep.slice Sample_.rep) u15 y9.1),(true,.val (Rep.slice Entity_.rep) u16 y10.1),Gqs] [(false,.box 166 (Qc.repW u0_ u1_) u3 s_),(false,.opt (Qb.mem u3 u11) u11 s4.2.2.2.1),(false,.opt (Qd.mem u12) u12 s4.2.2.2.2),(true,.slice 55 Event_.rep u8 s4.2.2.1),(false,.slice 5 (Rep.int .u8) u0_ s_.bytes),(false,.slice 3 (Rep.int .i64) u1_ s_.wear)]) hF (λ s8 _ w18 hI hF=>?_) (λ j7 hj7 hF=>?_)
        ·obtain ⟨u17,u18,rfl,h48⟩:=hI
         refine sr (gm rfl (gm rfl (gm rfl ?_)))
         obtain ⟨x3,e18,hF⟩:=Qa hF
         have h49:=St.unopt (h48.pick (.s (.s .z))) e18
         obtain ⟨u19,h50⟩:=h49.unex
         obtain ⟨u20,h51⟩:=h50.unex
         have h52:=h51.unsep
         have h53:=(h52.pick (.s .z)).unsep
         obtain ⟨y11,e19,hF⟩:=Qa hF
         have h54:=h53.front (.cons (.s (.s .z)) (.cons .z (.cons .z .nil)))
         refine op (OpS.callO h54 Tryz.func20 rfl rfl rfl rfl (vs:=[u12,u15,u16,.bool true]) rfl (Qge e19) rfl (.cons (f:=true) (V.at (.s (.s (.s (.s (.s .z)))))) (.cons (f:=true) (V.at (.s (.s (.s (.s (.s (.s .z))))))) (.ptr (.s (.s (.s (.s (.s (.s (.s .z))))))) .nil))) ?_)
         rintro _ w19 _ _ _ ⟨u21,u22,u23,rfl,rfl,rfl,rfl⟩ h55
         have h56:=h55
         simp only [ca,na] at h56
         refine gm rfl (op (OpS.ext rfl rfl rfl rfl ?_))
         refine op (OpS.ext rfl rfl rfl rfl ?_)
         refine ga rfl ?_
         have h57:=(h56.pick .z).freeze
         refine ga rfl (nil (Run.seq (sr (gm rfl (gb rfl (nil ?_))))))
         refine Run.ite rfl hF (λ e20 hF=>?_) (λ e20 hF=>?_)
         ·refine Run.exit rfl ?_
          refine Run.reg (gm rfl (gb rfl (ga rfl ?_)))
          obtain ⟨x4,e21,hF⟩:=Qh hF
          refine RunL.name e21 ?_
          refine nil ?_
          have h58:=h57.front (.cons (.s .z) (.cons (.s .z) (.cons .z .nil)))
          have h59:=St.sep h58
          have h60:=St.sep (h59.pick (.s .z))
          have h61:=St.ex (H:=λ w1_=>.sep (.box 184 (Qd.repW u22 w1_) u12 y11.2.2) (.sep (.slice 188 Filter_.rep u22 y11.2.2.filters) (.slice 49 (Rep.int .u16) w1_ y11.2.2.states))) u23 h60
          have h62:=St.ex (H:=λ w0_=>.ex λ w1_=>.sep (.box 184 (Qd.repW w0_ w1_) u12 y11.2.2) (.sep (.slice 188 Filter_.rep w0_ y11.2.2.filters) (.slice 49 (Rep.int .u16) w1_ y11.2.2.states))) u22 h61
          have h63:=St.some (H:=(Qd.mem u12)) (q:=u12) (x:=y11.2.2) h62
          refine Run.slim [(0,v0),(1,v1),(2,v2),(3,v3),(9,u2),(10,u3),(12,u11),(13,u12),(14,u8),(15,.int .i64 x4)] ⟨rfl,rfl,rfl,rfl,rfl,rfl,rfl,rfl,rfl,rfl,trivial⟩ ?_
          exact hk1 (x4,s8,s4.2.2.1,s4.2.2.2.1,(some y11.2.2)) _ _ ⟨u8,u17,u18,u11,u12,rfl,(h63.facts (.atm (.s .z) (.atm (.s (.s .z)) (.atm (.s (.s (.s .z))) (.atm (.s (.s (.s (.s .z)))) (.atm (.s (.s (.s (.s (.s .z))))) (.atm (.s (.s (.s (.s (.s (.s (.s (.s .z)))))))) .nil))))))).picks (.cons (.s .z) (.cons (.s (.s .z)) (.cons (.s (.s .z)) (.cons (.s (.s .z)) (.cons (.s .z) (.cons .z .nil))))))⟩ hF
         refine Run.skip (Run.seq (sr (ga rfl (nil ?_))))
         refine Run.join (σ:=(Qc×(List Event_)×(Option Qb)×(Option Qd))) (λ s_ L_ w_=>∃ u0_ u1_ u2_ u3_ u4_:Value,L_=[(0,v0),(1,v1),(2,v2),(3,v3),(9,u2),(10,u3),(12,u3_),(13,u4_),(14,u0_),(15,.int .i64 s4.1)]∧St e w_ [(false,.val (Rep.slice (Rep.int .i64)) v0 a0),(false,.val (Rep.slice (Rep.slice (Rep.int .i64))) v1 a1),(false,.val (Rep.slice (Rep.int .i64)) v2 a2),(false,.val (Rep.slice (Rep.int .u8)) v3 a3),(true,.val (Rep.slice Sensor_.rep) u2 y4.1),Gqs] [(false,.box 166 (Qc.repW u1_ u2_) u3 s_.1),(true,.slice 55 Event_.rep u0_ s_.2.1),(false,.slice 5 (Rep.int .u8) u1_ s_.1.bytes),(false,.slice 3 (Rep.int .i64) u2_ s_.1.wear),(false,.opt (Qb.mem u3 u3_) u3_ s_.2.2.1),(false,.opt (Qd.mem u4_) u4_ s_.2.2.2)]) hF (λ s9 _ w20 hI hF=>?_) (λ j8 hj8 hF=>?_)
         ·obtain ⟨u24,u25,u26,u27,u28,rfl,h64⟩:=hI
          refine sr (gm rfl ?_)
          obtain ⟨x5,e22,hF⟩:=Qa hF
          have h65:=St.unopt (h64.pick (.s (.s (.s (.s .z))))) e22
          obtain ⟨u29,h66⟩:=h65.unex
          obtain ⟨u30,h67⟩:=h66.unex
          have h68:=h67.unsep
          have h69:=(h68.pick (.s .z)).unsep
          obtain ⟨y12,e23,hF⟩:=Qa hF
          have h70:=h69.front (.cons (.s (.s .z)) (.cons .z (.cons .z .nil)))
          refine op (OpS.callO h70 Tryz.func24 rfl rfl rfl rfl (vs:=[u27]) rfl (Qcp e23) rfl .nil ?_)
          rintro u31 w21 _ _ _ ⟨_,rfl,rfl,rfl,rfl⟩ h71
          have h72:=h71
          simp only [ca,na] at h72
          obtain ⟨y13,e24,hF⟩:=Qa hF
          refine op (OpS.callP h72 Tryz.func23 rfl rfl rfl rfl (vs:=[u31]) rfl (Qlr e24) (.own .z .nil) ?_)
          rintro u32 w22 _ _ _ ⟨_,rfl,rfl,rfl,rfl⟩ h73
          have h74:=h73 rfl rfl
          simp only [ca,na] at h74
          refine gm rfl ?_
          obtain ⟨y14,e25,hF⟩:=Qa hF
          refine op (OpS.callP h74 Tryz.func22 rfl rfl rfl rfl (vs:=[u32,u24]) rfl (Qim e25) (.own .z (.own (.s (.s (.s (.s (.s (.s .z)))))) .nil)) ?_)
          rintro _ w23 _ _ _ ⟨rfl,rfl,rfl,rfl⟩ h75
          have h76:=h75 rfl rfl
          simp only [ca,na] at h76
          refine op (OpS.not rfl rfl rfl ?_)
          refine nil ?_
          refine Run.ite rfl hF (λ e26 hF=>?_) (λ e26 hF=>?_)
          ·refine sr (ga rfl (nil (Run.retP rfl (.tmp rfl .nil) ?_)))
           cases hF
           exact Post.mk' ⟨rfl,rfl,rfl,rfl⟩ (h76.picks .nil) .nil
          refine Run.skip (Run.endBlock (Run.reg (gm rfl (gb rfl (ga rfl ?_)))))
          obtain ⟨x6,e27,hF⟩:=Qh hF
          refine RunL.name e27 ?_
          refine nil ?_
          have h77:=h76.front (.cons (.s (.s (.s .z))) (.cons (.s (.s (.s .z))) (.cons (.s (.s .z)) .nil)))
          have h78:=St.sep h77
          have h79:=St.sep (h78.pick (.s .z))
          have h80:=St.ex (H:=λ w1_=>.sep (.box 169 (Qb.repW u29 w1_) u27 x5) (.sep (.lnk u3 u29 x5.d) (.slice 200 Qe.rep w1_ x5.records))) u30 h79
          have h81:=St.ex (H:=λ w0_=>.ex λ w1_=>.sep (.box 169 (Qb.repW w0_ w1_) u27 x5) (.sep (.lnk u3 w0_ x5.d) (.slice 200 Qe.rep w1_ x5.records))) u29 h80
          have h82:=St.some (H:=(Qb.mem u3 u27)) (q:=u27) (x:=x5) h81
          refine Run.slim [(0,v0),(1,v1),(2,v2),(3,v3),(9,u2),(10,u3),(12,u27),(13,u28),(14,u24),(15,.int .i64 x6)] ⟨rfl,rfl,rfl,rfl,rfl,rfl,rfl,rfl,rfl,rfl,trivial⟩ ?_
          exact hk1 (x6,s9.1,s9.2.1,(some x5),s9.2.2.2) _ _ ⟨u24,u25,u26,u27,u28,rfl,(h82.facts (.atm .z (.atm (.s .z) (.atm (.s (.s .z)) (.atm (.s (.s (.s .z))) (.atm (.s (.s (.s (.s .z)))) (.atm (.s (.s (.s (.s (.s .z))))) .nil))))))).picks (.cons (.s (.s (.s .z))) (.cons (.s (.s (.s .z))) (.cons (.s (.s (.s .z))) (.cons (.s (.s (.s .z))) (.cons .z (.cons (.s (.s .z)) .nil))))))⟩ hF
         refine Run.block (Run.slim [(0,v0),(1,v1),(2,v2),(3,v3),(9,u2),(10,u3),(12,u11),(13,u12),(14,u8),(15,.int .i64 s4.1),(20,u21),(22,.int .i64 0)] ⟨rfl,rfl,rfl,rfl,rfl,rfl,rfl,rfl,rfl,rfl,rfl,rfl,trivial⟩ ?_)
         refine Run.loopP (σ:=(Int×Qc×(List Event_)×(Option Qb))) (λ s_ L_ w_=>∃ u0_ u1_ u2_ u3_:Value,L_=[(0,v0),(1,v1),(2,v2),(3,v3),(9,u2),(10,u3),(12,u3_),(13,u12),(14,u0_),(15,.int .i64 s4.1),(20,u21),(22,.int .i64 s_.1)]∧St e w_ [(false,.val (Rep.slice (Rep.int .i64)) v0 a0),(false,.val (Rep.slice (Rep.slice (Rep.int .i64))) v1 a1),(false,.val (Rep.slice (Rep.int .i64)) v2 a2),(false,.val (Rep.slice (Rep.int .u8)) v3 a3),(true,.val (Rep.slice Sensor_.rep) u2 y4.1),(true,.val (Rep.slice Event_.rep) u21 y11.1),Gqs] [(false,.box 166 (Qc.repW u1_ u2_) u3 s_.2.1),(false,.box 184 (Qd.repW u22 u23) u12 y11.2.2),(true,.slice 55 Event_.rep u0_ s_.2.2.1),(false,.slice 5 (Rep.int .u8) u1_ s_.2.1.bytes),(false,.slice 3 (Rep.int .i64) u2_ s_.2.1.wear),(false,.slice 188 Filter_.rep u22 y11.2.2.filters),(false,.slice 49 (Rep.int .u16) u23 y11.2.2.states),(false,.opt (Qb.mem u3 u3_) u3_ s_.2.2.2)]) hF ⟨u8,u17,u18,u11,rfl,(h57.facts (.atm (.s .z) (.atm (.s (.s .z)) (.atm (.s (.s (.s .z))) (.atm (.s (.s (.s (.s .z)))) (.atm (.s (.s (.s (.s (.s .z))))) (.atm .z (.atm (.s (.s (.s (.s (.s (.s (.s (.s .z)))))))) .nil)))))))).picks (.cons (.s (.s (.s .z))) (.cons .z (.cons (.s (.s (.s .z))) (.cons (.s (.s (.s .z))) (.cons (.s (.s (.s .z))) (.cons .z (.cons .z (.cons .z .nil))))))))⟩ (λ k2 hk2 s10 _ w24 hI hF=>?_)
         obtain ⟨u33,u34,u35,u36,rfl,h83⟩:=hI
         refine Run.seq (sr (gm rfl (gm rfl (op (OpS.len h83 Tryz.underlying40 rfl rfl rfl (V.at (.s (.s (.s (.s (.s .z)))))) ?_)))))
         refine gb rfl (nil ?_)
         refine Run.ite rfl hF (λ e28 hF=>?_) (λ e28 hF=>?_)
         ·refine Run.skip (Run.seq (Run.block (sr (gm rfl (gm rfl (gm rfl ?_))))))
          obtain ⟨x7,e29,hF⟩:=Qa hF
          refine op (OpS.iptr h83 Tryz.underlying40 ty55 rfl rfl rfl rfl (V.at (.s (.s (.s (.s (.s .z)))))) e29 (λ u37 h84=>?_))
          refine op (OpS.load h84 ty55 rfl rfl rfl .z (λ u38 h85=>?_))
          obtain ⟨x8,e30,hF⟩:=Qa hF
          have h86:=St.unopt (h85.pick (.s (.s (.s (.s (.s (.s (.s .z)))))))) e30
          obtain ⟨u39,h87⟩:=h86.unex
          obtain ⟨u40,h88⟩:=h87.unex
          have h89:=h88.unsep
          have h90:=(h89.pick (.s .z)).unsep
          obtain ⟨y15,e31,hF⟩:=Qa hF
          have h91:=h90.front (.cons (.s (.s .z)) (.cons .z (.cons .z (.cons .z (.cons (.s (.s .z)) (.cons (.s (.s .z)) .nil))))))
          refine op (OpS.callO h91 Tryz.func21 rfl rfl rfl rfl (vs:=[u36,u38]) rfl (Qhh e31) rfl (.cons (f:=true) (V.at .z) .nil) ?_)
          rintro _ w25 _ _ _ ⟨u41,u42,u43,u44,rfl,rfl,rfl,rfl⟩ h92
          have h93:=h92
          simp only [ca,na] at h93
          refine gm rfl (op (OpS.ext rfl rfl rfl rfl ?_))
          refine op (OpS.ext rfl rfl rfl rfl ?_)
          refine ga rfl (ga rfl (nil (Run.seq (sr (gm rfl (gb rfl (nil ?_)))))))
          refine Run.ite rfl hF (λ e32 hF=>?_) (λ e32 hF=>?_)
          ·refine sr (gm rfl (gm rfl (gm rfl ?_)))
           obtain ⟨x9,e33,hF⟩:=Qa hF
           refine op (OpS.iptr h93 Tryz.underlying40 ty55 rfl rfl rfl rfl (V.at (.s (.s (.s (.s (.s (.s (.s .z)))))))) e33 (λ u45 h94=>?_))
           refine op (OpS.load h94 ty55 rfl rfl rfl .z (λ u46 h95=>?_))
           refine op (OpS.lit (r:=Event_.rep) (f:=true) h95 Tryz.underlying40 ti55 rfl rfl rfl rfl rfl (.cons rfl (V.at .z) .nil) rfl rfl (λ u47 w26 h96=>?_))
           obtain ⟨x10,e34,hF⟩:=Qa hF
           refine op (OpS.app (f':=true) h96 (.s (.s (.s (.s (.s (.s (.s .z))))))) Tryz.underlying40 ti55 rfl rfl rfl rfl rfl rfl rfl (V.at .z) (.inr Event_.pure) e34 (λ u48 w27 h97=>?_))
           refine ga rfl (nil (Run.exit rfl ?_))
           refine Run.reg (gm rfl (gb rfl (ga rfl ?_)))
           obtain ⟨x11,e35,hF⟩:=Qh hF
           refine RunL.name e35 ?_
           refine nil ?_
           have h98:=h97.front (.cons (.s (.s .z)) (.cons (.s (.s .z)) (.cons (.s .z) .nil)))
           have h99:=St.sep h98
           have h100:=St.sep (h99.pick (.s .z))
           have h101:=St.ex (H:=λ w1_=>.sep (.box 169 (Qb.repW u41 w1_) u36 y15.2.2.1) (.sep (.lnk u3 u41 y15.2.2.1.d) (.slice 200 Qe.rep w1_ y15.2.2.1.records))) u42 h100
           have h102:=St.ex (H:=λ w0_=>.ex λ w1_=>.sep (.box 169 (Qb.repW w0_ w1_) u36 y15.2.2.1) (.sep (.lnk u3 w0_ y15.2.2.1.d) (.slice 200 Qe.rep w1_ y15.2.2.1.records))) u41 h101
           have h103:=St.some (H:=(Qb.mem u3 u36)) (q:=u36) (x:=y15.2.2.1) h102
           refine Run.slim [(0,v0),(1,v1),(2,v2),(3,v3),(9,u2),(10,u3),(12,u36),(13,u12),(14,u48),(15,.int .i64 s4.1),(20,u21),(22,.int .i64 x11)] ⟨rfl,rfl,rfl,rfl,rfl,rfl,rfl,rfl,rfl,rfl,rfl,rfl,trivial⟩ ?_
           exact hk2 (x11,y15.2.2.2,x10,(some y15.2.2.1)) _ _ ⟨u48,u43,u44,u36,rfl,(h103.facts (.atm (.s (.s (.s (.s (.s .z))))) (.atm (.s (.s (.s (.s (.s (.s .z)))))) (.atm (.s (.s (.s (.s (.s (.s (.s .z))))))) (.atm (.s (.s (.s (.s (.s (.s (.s (.s .z)))))))) (.atm (.s (.s (.s (.s (.s (.s (.s (.s (.s .z))))))))) (.atm (.s (.s (.s (.s (.s (.s (.s (.s (.s (.s .z)))))))))) (.atm (.s (.s (.s (.s (.s (.s (.s (.s (.s (.s (.s .z))))))))))) .nil)))))))).picks (.cons (.s (.s .z)) (.cons (.s (.s (.s (.s .z)))) (.cons (.s .z) (.cons (.s .z) (.cons (.s .z) (.cons (.s .z) (.cons (.s .z) (.cons .z .nil))))))))⟩ hF
          refine Run.skip (Run.seq (sr (gm rfl (gb rfl (nil ?_)))))
          refine Run.ite rfl hF (λ e36 hF=>?_) (λ e36 hF=>?_)
          ·refine sr (gm rfl ?_)
           obtain ⟨y16,e37,hF⟩:=Qa hF
           have h104:=h93.front (.cons .z (.cons .z (.cons .z .nil)))
           refine op (OpS.callO h104 Tryz.func24 rfl rfl rfl rfl (vs:=[u36]) rfl (Qcp e37) rfl .nil ?_)
           rintro u49 w28 _ _ _ ⟨_,rfl,rfl,rfl,rfl⟩ h105
           have h106:=h105
           simp only [ca,na] at h106
           obtain ⟨y17,e38,hF⟩:=Qa hF
           refine op (OpS.callP h106 Tryz.func23 rfl rfl rfl rfl (vs:=[u49]) rfl (Qlr e38) (.own .z .nil) ?_)
           rintro u50 w29 _ _ _ ⟨_,rfl,rfl,rfl,rfl⟩ h107
           have h108:=h107 rfl rfl
           simp only [ca,na] at h108
           refine gm rfl ?_
           obtain ⟨y18,e39,hF⟩:=Qa hF
           refine op (OpS.callP h108 Tryz.func22 rfl rfl rfl rfl (vs:=[u50,u33]) rfl (Qim e39) (.own .z (.own (.s (.s (.s (.s (.s (.s (.s (.s (.s .z))))))))) .nil)) ?_)
           rintro _ w30 _ _ _ ⟨rfl,rfl,rfl,rfl⟩ h109
           have h110:=h109 rfl rfl
           simp only [ca,na] at h110
           refine ga rfl (nil (Run.slim [(8,.bool y18)] ⟨rfl,trivial⟩ ?_))
           refine Run.retP rfl (.tmp rfl .nil) ?_
           cases hF
           exact Post.mk' ⟨rfl,rfl,rfl,rfl⟩ (h110.picks .nil) .nil
          refine Run.skip (Run.seq (sr (gm rfl (gb rfl (nil ?_)))))
          refine Run.ite rfl hF (λ e40 hF=>?_) (λ e40 hF=>?_)
          ·refine sr (ga rfl (nil (Run.slim [(8,.bool false)] ⟨rfl,trivial⟩ ?_)))
           refine Run.retP rfl (.tmp rfl .nil) ?_
           cases hF
           exact Post.mk' ⟨rfl,rfl,rfl,rfl⟩ (h93.picks .nil) .nil
          refine Run.skip (sr (gm rfl ?_))
          obtain ⟨y19,e41,hF⟩:=Qa hF
          have h111:=h93.front (.cons (.s (.s (.s .z))) (.cons (.s (.s (.s .z))) (.cons (.s (.s (.s .z))) .nil)))
          refine op (OpS.callO h111 Tryz.func25 rfl rfl rfl rfl (vs:=[u3]) rfl (Qjr e41) rfl .nil ?_)
          rintro _ w31 _ _ _ ⟨u51,u52,rfl,rfl,rfl,rfl⟩ h112
          have h113:=h112
          simp only [ca,na] at h113
          refine nil (sr (gm rfl ?_))
          obtain ⟨y20,e42,hF⟩:=Qa hF
          have h114:=h113.front (.cons .z (.cons .z (.cons .z .nil)))
          refine op (OpS.callO h114 Tryz.func14 rfl rfl rfl rfl (vs:=[u3,.int .i64 2,.int .i64 12,.bool false]) rfl (Qgn e42) rfl .nil ?_)
          rintro _ w32 _ _ _ ⟨u53,rfl,rfl,rfl,rfl⟩ h115
          have h116:=h115
          simp only [ca,na] at h116
          refine gm rfl (op (OpS.ext rfl rfl rfl rfl ?_))
          refine op (OpS.ext rfl rfl rfl rfl ?_)
          refine ga rfl (ga rfl (nil (Run.seq (sr (gm rfl (op (OpS.onilE2 h116 .z (λ _=>PtrOf.ex λ _=>PtrOf.ex λ _=>PtrOf.sep PtrOf.box) Tryz.underlying35 rfl rfl rfl rfl ?_)))))))
          refine gm rfl ?_
          refine RunL.join (σ:=Bool) (λ s_ L_ w_=>L_=[(0,v0),(1,v1),(2,v2),(3,v3),(9,u2),(10,u3),(12,u53),(14,u33),(15,.int .i64 s4.1),(20,u21),(22,.int .i64 s10.1),(189,.bool s_)]∧St e w_ [(false,.val (Rep.slice (Rep.int .i64)) v0 a0),(false,.val (Rep.slice (Rep.slice (Rep.int .i64))) v1 a1),(false,.val (Rep.slice (Rep.int .i64)) v2 a2),(false,.val (Rep.slice (Rep.int .u8)) v3 a3),(true,.val (Rep.slice Sensor_.rep) u2 y4.1),(true,.val (Rep.slice Event_.rep) u21 y11.1),Gqs] [(false,.box 166 (Qc.repW u51 u52) u3 y19),(false,.opt (Qb.mem u3 u53) u53 y20.1),(true,.slice 55 Event_.rep u33 s10.2.2.1),(false,.slice 5 (Rep.int .u8) u51 y19.bytes),(false,.slice 3 (Rep.int .i64) u52 y19.wear)]) hF (λ s11 _ w33 hI hF=>?_) (λ j9 hj9 hF=>?_)
          ·obtain ⟨rfl,h117⟩:=hI
           refine Run.ite rfl hF (λ e43 hF=>?_) (λ e43 hF=>?_)
           ·refine sr (ga rfl (nil (Run.retP rfl (.tmp rfl .nil) ?_)))
            cases hF
            exact Post.mk' ⟨rfl,rfl,rfl,rfl⟩ (h117.picks .nil) .nil
           refine Run.skip (Run.seq (sr (gm rfl ?_)))
           obtain ⟨x12,e44,hF⟩:=Qa hF
           have h118:=St.unopt (h117.pick (.s .z)) e44
           obtain ⟨u54,h119⟩:=h118.unex
           obtain ⟨u55,h120⟩:=h119.unex
           have h121:=h120.unsep
           have h122:=(h121.pick (.s .z)).unsep
           obtain ⟨y21,e45,hF⟩:=Qa hF
           have h123:=h122.front (.cons (.s (.s .z)) (.cons .z (.cons .z .nil)))
           refine op (OpS.callO h123 Tryz.func26 rfl rfl rfl rfl (vs:=[u53]) rfl (Qhi e45) rfl .nil ?_)
           rintro _ w34 _ _ _ ⟨rfl,rfl,rfl,rfl⟩ h124
           have h125:=h124
           simp only [ca,na] at h125
           refine gm rfl (op (OpS.lenO h125 (.s (.s (.s (.s .z)))) Tryz.underlying40 rfl rfl rfl ?_))
           refine gb rfl (gb rfl (nil ?_))
           refine Run.join (σ:=((List Event_))) (λ s_ L_ w_=>∃ u0_:Value,L_=[(0,v0),(1,v1),(2,v2),(3,v3),(9,u2),(10,u3),(12,u53),(14,u0_),(15,.int .i64 s4.1)]∧St e w_ [(false,.val (Rep.slice (Rep.int .i64)) v0 a0),(false,.val (Rep.slice (Rep.slice (Rep.int .i64))) v1 a1),(false,.val (Rep.slice (Rep.int .i64)) v2 a2),(false,.val (Rep.slice (Rep.int .u8)) v3 a3),(true,.val (Rep.slice Sensor_.rep) u2 y4.1),Gqs] [(false,.box 166 (Qc.repW u51 u52) u3 y19),(false,.box 169 (Qb.repW u54 u55) u53 x12),(true,.slice 55 Event_.rep u0_ s_),(false,.slice 5 (Rep.int .u8) u51 y19.bytes),(false,.slice 3 (Rep.int .i64) u52 y19.wear),(false,.lnk u3 u54 x12.d),(false,.slice 200 Qe.rep u55 x12.records)]) hF (λ s12 _ w35 hI hF=>?_) (λ j10 hj10 hF=>?_)
           ·obtain ⟨u56,rfl,h126⟩:=hI
            refine sr (gm rfl (gm rfl ?_))
            obtain ⟨y22,e46,hF⟩:=Qa hF
            have h127:=h126.front (.cons (.s .z) (.cons (.s (.s (.s (.s .z)))) (.cons (.s (.s (.s (.s .z)))) .nil)))
            refine op (OpS.callO h127 Tryz.func24 rfl rfl rfl rfl (vs:=[u53]) rfl (Qcp e46) rfl .nil ?_)
            rintro u57 w36 _ _ _ ⟨_,rfl,rfl,rfl,rfl⟩ h128
            have h129:=h128
            simp only [ca,na] at h129
            have h130:=(h129.pick .z).freeze
            obtain ⟨y23,e47,hF⟩:=Qa hF
            have h131:=h130.front .nil
            refine op (OpS.callO h131 Tryz.func15 rfl rfl rfl rfl (vs:=[u2,u57]) rfl (Qlf e47) rfl (.cons (f:=true) (V.at (.s (.s (.s (.s (.s .z)))))) (.cons (f:=true) (V.at .z) (.ptr (.s (.s (.s (.s (.s (.s .z)))))) .nil))) ?_)
            rintro u58 w37 _ _ _ ⟨_,rfl,rfl,rfl,rfl⟩ h132
            have h133:=h132
            simp only [ca,na] at h133
            refine ga rfl (nil (Run.seq (sr (gm rfl (op (OpS.onilE2 h133 .z (λ _=>PtrOf.ex λ _=>PtrOf.ex λ _=>PtrOf.sep PtrOf.box) Tryz.underlying38 rfl rfl rfl rfl ?_))))))
            refine nil ?_
            refine Run.ite rfl hF (λ e48 hF=>?_) (λ e48 hF=>?_)
            ·refine sr (ga rfl (nil (Run.retP rfl (.tmp rfl .nil) ?_)))
             cases hF
             exact Post.mk' ⟨rfl,rfl,rfl,rfl⟩ (h133.picks .nil) .nil
            refine Run.skip (Run.exit rfl ?_)
            have h134:=h133.front (.cons (.s (.s .z)) (.cons (.s (.s .z)) (.cons (.s .z) .nil)))
            have h135:=St.sep h134
            have h136:=St.sep (h135.pick (.s .z))
            have h137:=St.ex (H:=λ w1_=>.sep (.box 169 (Qb.repW u54 w1_) u53 x12) (.sep (.lnk u3 u54 x12.d) (.slice 200 Qe.rep w1_ x12.records))) u55 h136
            have h138:=St.ex (H:=λ w0_=>.ex λ w1_=>.sep (.box 169 (Qb.repW w0_ w1_) u53 x12) (.sep (.lnk u3 w0_ x12.d) (.slice 200 Qe.rep w1_ x12.records))) u54 h137
            have h139:=St.some (H:=(Qb.mem u3 u53)) (q:=u53) (x:=x12) h138
            refine Run.slim [(0,v0),(1,v1),(2,v2),(3,v3),(9,u2),(10,u3),(12,u53),(13,u58),(14,u56),(15,.int .i64 s4.1)] ⟨rfl,rfl,rfl,rfl,rfl,rfl,rfl,rfl,rfl,rfl,trivial⟩ ?_
            exact hj8 (y19,s12,(some x12),y23) _ _ ⟨u56,u51,u52,u53,u58,rfl,(h139.facts (.atm (.s .z) (.atm (.s (.s .z)) (.atm (.s (.s (.s .z))) (.atm (.s (.s (.s (.s .z)))) (.atm (.s (.s (.s (.s (.s .z))))) (.atm (.s (.s (.s (.s (.s (.s .z)))))) .nil))))))).picks (.cons (.s (.s .z)) (.cons (.s (.s .z)) (.cons (.s (.s .z)) (.cons (.s (.s .z)) (.cons .z (.cons .z .nil))))))⟩ hF
           refine Run.ite rfl hF (λ e49 hF=>?_) (λ e49 hF=>?_)
           ·refine Run.reg (gm rfl (gm rfl (gm rfl ?_)))
            obtain ⟨x13,e50,hF⟩:=Qa hF
            refine op (OpS.iptr h125 Tryz.underlying40 ty55 rfl rfl rfl rfl (V.at (.s (.s (.s (.s (.s .z)))))) e50 (λ u59 h140=>?_))
            refine op (OpS.load h140 ty55 rfl rfl rfl .z (λ u60 h141=>?_))
            refine op (OpS.lit (r:=Event_.rep) (f:=true) h141 Tryz.underlying40 ti55 rfl rfl rfl rfl rfl (.cons rfl (V.at .z) .nil) rfl rfl (λ u61 w38 h142=>?_))
            obtain ⟨x14,e51,hF⟩:=Qa hF
            refine op (OpS.app (f':=true) h142 (.s (.s (.s (.s .z)))) Tryz.underlying40 ti55 rfl rfl rfl rfl rfl rfl rfl (V.at .z) (.inr Event_.pure) e51 (λ u62 w39 h143=>?_))
            refine ga rfl (nil (Run.slim [(0,v0),(1,v1),(2,v2),(3,v3),(9,u2),(10,u3),(12,u53),(14,u62),(15,.int .i64 s4.1)] ⟨rfl,rfl,rfl,rfl,rfl,rfl,rfl,rfl,rfl,trivial⟩ ?_))
            exact hj10 (x14) _ _ ⟨u62,rfl,(h143.facts (.atm (.s (.s (.s .z))) (.atm (.s (.s (.s (.s .z)))) (.atm (.s (.s (.s (.s (.s .z))))) (.atm (.s (.s (.s (.s (.s (.s .z)))))) (.atm (.s (.s (.s (.s (.s (.s (.s .z))))))) (.atm (.s (.s (.s (.s (.s (.s (.s (.s (.s .z))))))))) .nil))))))).picks (.cons (.s (.s (.s (.s .z)))) (.cons (.s .z) (.cons .z (.cons (.s (.s .z)) (.cons (.s (.s .z)) (.cons .z (.cons .z .nil)))))))⟩ hF
           refine Run.skip (Run.slim [(0,v0),(1,v1),(2,v2),(3,v3),(9,u2),(10,u3),(12,u53),(14,u33),(15,.int .i64 s4.1)] ⟨rfl,rfl,rfl,rfl,rfl,rfl,rfl,rfl,rfl,trivial⟩ ?_)
           exact hj10 (s10.2.2.1) _ _ ⟨u33,rfl,(h125.facts (.atm .z (.atm (.s .z) (.atm (.s (.s .z)) (.atm (.s (.s (.s .z))) (.atm (.s (.s (.s (.s .z)))) (.atm (.s (.s (.s (.s (.s (.s .z)))))) .nil))))))).picks (.cons (.s (.s (.s .z))) (.cons .z (.cons (.s (.s .z)) (.cons (.s (.s .z)) (.cons (.s (.s .z)) (.cons .z (.cons .z .nil)))))))⟩ hF
          refine RunL.caseb hF (λ e52 hF=>?_) (λ e52 hF=>?_)
          ·refine gp rfl (gp rfl (gk rfl (nil (Run.slim [(189,.bool true),(12,u53),(0,v0),(1,v1),(2,v2),(3,v3),(9,u2),(10,u3),(14,u33),(15,.int .i64 s4.1),(20,u21),(22,.int .i64 s10.1)] ⟨rfl,rfl,rfl,rfl,rfl,rfl,rfl,rfl,rfl,rfl,rfl,rfl,trivial⟩ ?_))))
           refine Run.slim [(0,v0),(1,v1),(2,v2),(3,v3),(9,u2),(10,u3),(12,u53),(14,u33),(15,.int .i64 s4.1),(20,u21),(22,.int .i64 s10.1),(189,.bool true)] ⟨rfl,rfl,rfl,rfl,rfl,rfl,rfl,rfl,rfl,rfl,rfl,rfl,trivial⟩ ?_
           exact hj9 (true) _ _ ⟨rfl,(h116.facts (.atm (.s (.s .z)) (.atm (.s (.s (.s .z))) (.atm (.s (.s (.s (.s .z)))) (.atm (.s (.s (.s (.s (.s .z))))) (.atm (.s (.s (.s (.s (.s (.s .z)))))) (.atm (.s (.s (.s (.s (.s (.s (.s .z))))))) (.atm (.s (.s (.s (.s (.s (.s (.s (.s .z)))))))) .nil)))))))).picks (.cons (.s .z) (.cons .z (.cons (.s (.s (.s (.s (.s (.s .z)))))) (.cons .z (.cons .z .nil)))))⟩ hF
          refine gm rfl (gb rfl (gk rfl (nil (Run.slim [(189,.bool (y20.2 != 0)),(12,u53),(0,v0),(1,v1),(2,v2),(3,v3),(9,u2),(10,u3),(14,u33),(15,.int .i64 s4.1),(20,u21),(22,.int .i64 s10.1)] ⟨rfl,rfl,rfl,rfl,rfl,rfl,rfl,rfl,rfl,rfl,rfl,rfl,trivial⟩ ?_))))
          refine Run.slim [(0,v0),(1,v1),(2,v2),(3,v3),(9,u2),(10,u3),(12,u53),(14,u33),(15,.int .i64 s4.1),(20,u21),(22,.int .i64 s10.1),(189,.bool (y20.2 != 0))] ⟨rfl,rfl,rfl,rfl,rfl,rfl,rfl,rfl,rfl,rfl,rfl,rfl,trivial⟩ ?_
          exact hj9 (y20.2 != 0) _ _ ⟨rfl,(h116.facts (.atm (.s (.s .z)) (.atm (.s (.s (.s .z))) (.atm (.s (.s (.s (.s .z)))) (.atm (.s (.s (.s (.s (.s .z))))) (.atm (.s (.s (.s (.s (.s (.s .z)))))) (.atm (.s (.s (.s (.s (.s (.s (.s .z))))))) (.atm (.s (.s (.s (.s (.s (.s (.s (.s .z)))))))) .nil)))))))).picks (.cons (.s .z) (.cons .z (.cons (.s (.s (.s (.s (.s (.s .z)))))) (.cons .z (.cons .z .nil)))))⟩ hF
         refine Run.exit rfl ?_
         have h144:=h83.front (.cons (.s (.s (.s (.s (.s .z))))) (.cons (.s (.s (.s (.s (.s .z))))) (.cons (.s .z) .nil)))
         have h145:=St.sep h144
         have h146:=St.sep (h145.pick (.s .z))
         have h147:=St.ex (H:=λ w1_=>.sep (.box 184 (Qd.repW u22 w1_) u12 y11.2.2) (.sep (.slice 188 Filter_.rep u22 y11.2.2.filters) (.slice 49 (Rep.int .u16) w1_ y11.2.2.states))) u23 h146
         have h148:=St.ex (H:=λ w0_=>.ex λ w1_=>.sep (.box 184 (Qd.repW w0_ w1_) u12 y11.2.2) (.sep (.slice 188 Filter_.rep w0_ y11.2.2.filters) (.slice 49 (Rep.int .u16) w1_ y11.2.2.states))) u22 h147
         have h149:=St.some (H:=(Qd.mem u12)) (q:=u12) (x:=y11.2.2) h148
         refine Run.slim [(0,v0),(1,v1),(2,v2),(3,v3),(9,u2),(10,u3),(12,u36),(13,u12),(14,u33),(15,.int .i64 s4.1)] ⟨rfl,rfl,rfl,rfl,rfl,rfl,rfl,rfl,rfl,rfl,trivial⟩ ?_
         exact hj8 (s10.2.1,s10.2.2.1,s10.2.2.2,(some y11.2.2)) _ _ ⟨u33,u34,u35,u36,u12,rfl,(h149.facts (.atm .z (.atm (.s .z) (.atm (.s (.s .z)) (.atm (.s (.s (.s .z))) (.atm (.s (.s (.s (.s .z)))) (.atm (.s (.s (.s (.s (.s (.s .z)))))) .nil))))))).picks (.cons (.s .z) (.cons (.s .z) (.cons (.s .z) (.cons (.s .z) (.cons (.s .z) (.cons .z .nil))))))⟩ hF
        refine Run.ite rfl hF (λ e53 hF=>?_) (λ e53 hF=>?_)
        ·refine Run.reg (gm rfl (gm rfl (gm rfl ?_)))
         obtain ⟨x15,e54,hF⟩:=Qa hF
         refine op (OpS.iptr h47 Tryz.underlying22 ty3 rfl rfl rfl rfl (V.at (.s (.s .z))) e54 (λ u63 h150=>?_))
         refine op (OpS.loadi h150 ty3 rfl rfl rfl .z ?_)
         obtain ⟨y24,e55,hF⟩:=Qa hF
         refine op (OpS.callP h150 Tryz.func19 rfl rfl rfl rfl (vs:=[.int .i64 x15,.int .i64 120]) rfl (Qmi e55) .nil ?_)
         rintro _ w40 _ _ _ ⟨rfl,rfl,rfl,rfl⟩ h151
         have h152:=h151 rfl rfl
         simp only [ca,na] at h152
         refine gb rfl (gm rfl ?_)
         obtain ⟨y25,e56,hF⟩:=Qa hF
         have h153:=h152.front (.cons .z (.cons (.s (.s (.s .z))) (.cons (.s (.s (.s .z))) .nil)))
         refine op (OpS.callO h153 Tryz.func18 rfl rfl rfl rfl (vs:=[u3,.int .i64 (IntKind.i64.wrap (1+y24)),.int .u8 s6]) rfl (Qlk e56) rfl .nil ?_)
         rintro _ w41 _ _ _ ⟨u64,u65,rfl,rfl,rfl,rfl⟩ h154
         have h155:=h154
         simp only [ca,na] at h155
         refine nil (Run.slim [(0,v0),(1,v1),(2,v2),(3,v3),(9,u2),(10,u3),(12,u11),(13,u12),(14,u8),(15,.int .i64 s4.1),(17,u15),(18,u16)] ⟨rfl,rfl,rfl,rfl,rfl,rfl,rfl,rfl,rfl,rfl,rfl,rfl,trivial⟩ ?_)
         exact hj7 (y25) _ _ ⟨u64,u65,rfl,(h155.facts (.atm (.s .z) (.atm (.s (.s .z)) (.atm (.s (.s (.s .z))) (.atm (.s (.s (.s (.s .z)))) (.atm (.s (.s (.s (.s (.s .z))))) (.atm (.s (.s (.s (.s (.s (.s .z)))))) (.atm (.s (.s (.s (.s (.s (.s (.s .z))))))) (.atm (.s (.s (.s (.s (.s (.s (.s (.s .z)))))))) .nil))))))))).picks (.cons .z (.cons (.s (.s .z)) (.cons (.s (.s .z)) (.cons (.s (.s .z)) (.cons .z (.cons .z .nil))))))⟩ hF
        refine Run.skip (Run.slim [(0,v0),(1,v1),(2,v2),(3,v3),(9,u2),(10,u3),(12,u11),(13,u12),(14,u8),(15,.int .i64 s4.1),(17,u15),(18,u16)] ⟨rfl,rfl,rfl,rfl,rfl,rfl,rfl,rfl,rfl,rfl,rfl,rfl,trivial⟩ ?_)
        exact hj7 (s4.2.1) _ _ ⟨u9,u10,rfl,(h47.facts (.atm .z (.atm (.s .z) (.atm (.s (.s .z)) (.atm (.s (.s (.s .z))) (.atm (.s (.s (.s (.s .z)))) (.atm (.s (.s (.s (.s (.s .z))))) (.atm (.s (.s (.s (.s (.s (.s .z)))))) (.atm (.s (.s (.s (.s (.s (.s (.s .z))))))) .nil))))))))).picks (.cons .z (.cons .z (.cons .z (.cons .z (.cons .z (.cons .z .nil))))))⟩ hF
       refine RunL.caseb hF (λ e57 hF=>?_) (λ e57 hF=>?_)
       ·refine gm rfl (gm rfl (op (OpS.len h46 Tryz.underlying23 rfl rfl rfl (V.at (.s .z)) ?_)))
        refine gb rfl (gk rfl (nil (Run.slim [(0,v0),(1,v1),(2,v2),(3,v3),(9,u2),(10,u3),(12,u11),(13,u12),(14,u8),(15,.int .i64 s4.1),(17,u15),(18,u16),(19,.int .u8 s6),(125,.bool (decide (s4.1<(a1.length:Int))))] ⟨rfl,rfl,rfl,rfl,rfl,rfl,rfl,rfl,rfl,rfl,rfl,rfl,rfl,rfl,trivial⟩ ?_)))
        exact hj6 (decide (s4.1<(a1.length:Int))) _ _ ⟨rfl,(h46.facts (.atm .z (.atm (.s .z) (.atm (.s (.s .z)) (.atm (.s (.s (.s .z))) (.atm (.s (.s (.s (.s .z)))) (.atm (.s (.s (.s (.s (.s .z))))) (.atm (.s (.s (.s (.s (.s (.s .z)))))) (.atm (.s (.s (.s (.s (.s (.s (.s .z))))))) .nil))))))))).picks (.cons .z (.cons .z (.cons .z (.cons .z (.cons .z (.cons .z .nil))))))⟩ hF
       refine gp rfl (gp rfl (gp rfl (gp rfl (gk rfl (nil (Run.slim [(0,v0),(1,v1),(2,v2),(3,v3),(9,u2),(10,u3),(12,u11),(13,u12),(14,u8),(15,.int .i64 s4.1),(17,u15),(18,u16),(19,.int .u8 s6),(125,.bool false)] ⟨rfl,rfl,rfl,rfl,rfl,rfl,rfl,rfl,rfl,rfl,rfl,rfl,rfl,rfl,trivial⟩ ?_))))))
       exact hj6 (false) _ _ ⟨rfl,(h46.facts (.atm .z (.atm (.s .z) (.atm (.s (.s .z)) (.atm (.s (.s (.s .z))) (.atm (.s (.s (.s (.s .z)))) (.atm (.s (.s (.s (.s (.s .z))))) (.atm (.s (.s (.s (.s (.s (.s .z)))))) (.atm (.s (.s (.s (.s (.s (.s (.s .z))))))) .nil))))))))).picks (.cons .z (.cons .z (.cons .z (.cons .z (.cons .z (.cons .z .nil))))))⟩ hF
      refine Run.ite rfl hF (λ e58 hF=>?_) (λ e58 hF=>?_)
      ·refine Run.reg (gm rfl (gm rfl ?_))
       obtain ⟨x16,e59,hF⟩:=Qa hF
       refine op (OpS.iptr h45 Tryz.underlying24 ty5 rfl rfl rfl rfl (V.at (.s (.s (.s (.s (.s .z)))))) e59 (λ u66 h156=>?_))
       refine op (OpS.loadi h156 ty5 rfl rfl rfl .z ?_)
       refine ga rfl (nil (Run.slim [(0,v0),(1,v1),(2,v2),(3,v3),(9,u2),(10,u3),(12,u11),(13,u12),(14,u8),(15,.int .i64 s4.1),(17,u15),(18,u16),(19,.int .u8 x16)] ⟨rfl,rfl,rfl,rfl,rfl,rfl,rfl,rfl,rfl,rfl,rfl,rfl,rfl,trivial⟩ ?_))
       exact hj5 (x16) _ _ ⟨rfl,(h156.facts (.atm (.s (.s (.s .z))) (.atm (.s (.s (.s (.s .z)))) (.atm (.s (.s (.s (.s (.s .z))))) (.atm (.s (.s (.s (.s (.s (.s .z)))))) (.atm (.s (.s (.s (.s (.s (.s (.s .z))))))) (.atm (.s (.s .z)) (.atm (.s .z) (.atm (.s (.s (.s (.s (.s (.s (.s (.s .z)))))))) .nil))))))))).picks (.cons (.s .z) (.cons (.s .z) (.cons (.s .z) (.cons (.s .z) (.cons (.s .z) (.cons (.s .z) .nil))))))⟩ hF
      refine Run.skip (Run.slim [(0,v0),(1,v1),(2,v2),(3,v3),(9,u2),(10,u3),(12,u11),(13,u12),(14,u8),(15,.int .i64 s4.1),(17,u15),(18,u16),(19,.int .u8 0)] ⟨rfl,rfl,rfl,rfl,rfl,rfl,rfl,rfl,rfl,rfl,rfl,rfl,rfl,trivial⟩ ?_)
      exact hj5 (0) _ _ ⟨rfl,(h45.facts (.atm (.s (.s .z)) (.atm (.s (.s (.s .z))) (.atm (.s (.s (.s (.s .z)))) (.atm (.s (.s (.s (.s (.s .z))))) (.atm (.s (.s (.s (.s (.s (.s .z)))))) (.atm (.s .z) (.atm .z (.atm (.s (.s (.s (.s (.s (.s (.s .z))))))) .nil))))))))).picks (.cons (.s .z) (.cons (.s .z) (.cons (.s .z) (.cons (.s .z) (.cons (.s .z) (.cons (.s .z) .nil))))))⟩ hF
     refine Run.ite rfl hF (λ e60 hF=>?_) (λ e60 hF=>?_)
     ·refine Run.seq (sr (gm rfl (gm rfl ?_)))
      obtain ⟨x17,e61,hF⟩:=Qa hF
      refine op (OpS.iptr h35 Tryz.underlying23 ty22 rfl rfl rfl rfl (V.at (.s .z)) e61 (λ u67 h157=>?_))
      refine op (OpS.load h157 ty22 rfl rfl rfl .z (λ u68 h158=>?_))
      refine op (OpS.len h158 Tryz.underlying22 rfl rfl rfl (V.at .z) ?_)
      refine gb rfl (nil ?_)
      refine Run.ite rfl hF (λ e62 hF=>?_) (λ e62 hF=>?_)
      ·refine sr (ga rfl (nil (Run.retP rfl (.tmp rfl .nil) ?_)))
       cases hF
       exact Post.mk' ⟨rfl,rfl,rfl,rfl⟩ (h158.picks .nil) .nil
      refine Run.skip (Run.reg (gm rfl (gm rfl ?_)))
      obtain ⟨x18,e63,hF⟩:=Qa hF
      refine op (OpS.iptr h158 Tryz.underlying23 ty22 rfl rfl rfl rfl (V.at (.s (.s (.s .z)))) e63 (λ u69 h159=>?_))
      refine op (OpS.load h159 ty22 rfl rfl rfl .z (λ u70 h160=>?_))
      obtain ⟨y26,e64,hF⟩:=Qa hF
      have h161:=h160.front .nil
      refine op (OpS.callO h161 Tryz.func12 rfl rfl rfl rfl (vs:=[u70]) rfl (Qjf e64) rfl (.cons (f:=false) (V.at .z) .nil) ?_)
      rintro u71 w42 _ _ _ ⟨_,rfl,rfl,rfl,rfl⟩ h162
      have h163:=h162
      simp only [ca,na] at h163
      refine ga rfl (nil ?_)
      have h164:=h163.front (.cons .z .nil)
      have h165:=St.some (H:=(λ x_=>.box 163 Qg.rep u71 x_)) (q:=u71) (x:=y26) h164
      refine Run.slim [(0,v0),(1,v1),(2,v2),(3,v3),(9,u2),(10,u3),(12,u11),(13,u12),(14,u8),(15,.int .i64 s4.1),(16,u71)] ⟨rfl,rfl,rfl,rfl,rfl,rfl,rfl,rfl,rfl,rfl,rfl,trivial⟩ ?_
      exact hj4 ((some y26)) _ _ ⟨u71,rfl,(h165.facts (.atm (.s (.s (.s (.s .z)))) (.atm (.s (.s (.s (.s (.s .z))))) (.atm (.s (.s (.s (.s (.s (.s .z)))))) (.atm (.s (.s (.s (.s (.s (.s (.s .z))))))) (.atm (.s (.s (.s (.s (.s (.s (.s (.s .z)))))))) (.atm (.s (.s (.s (.s (.s (.s (.s (.s (.s .z))))))))) .nil))))))).picks (.cons (.s (.s .z)) (.cons (.s (.s (.s (.s (.s .z))))) (.cons (.s (.s (.s (.s (.s .z))))) (.cons (.s (.s .z)) (.cons (.s (.s .z)) (.cons (.s (.s .z)) (.cons .z .nil)))))))⟩ hF
     refine Run.skip ?_
     have h166:=h35.front (.cons .z .nil)
     have h167:=St.some (H:=(λ x_=>.box 163 Qg.rep u13 x_)) (q:=u13) (x:=y8) h166
     refine Run.slim [(0,v0),(1,v1),(2,v2),(3,v3),(9,u2),(10,u3),(12,u11),(13,u12),(14,u8),(15,.int .i64 s4.1),(16,u13)] ⟨rfl,rfl,rfl,rfl,rfl,rfl,rfl,rfl,rfl,rfl,rfl,trivial⟩ ?_
     exact hj4 ((some y8)) _ _ ⟨u13,rfl,(h167.facts (.atm .z (.atm (.s .z) (.atm (.s (.s .z)) (.atm (.s (.s (.s .z))) (.atm (.s (.s (.s (.s .z)))) (.atm (.s (.s (.s (.s (.s .z))))) .nil))))))).picks (.cons (.s .z) (.cons (.s (.s (.s (.s .z)))) (.cons (.s (.s (.s (.s .z)))) (.cons (.s .z) (.cons (.s .z) (.cons (.s .z) (.cons .z .nil)))))))⟩ hF
    refine Run.exit rfl ?_
    refine sr (gm rfl (gm rfl ?_))
    obtain ⟨x19,e65,hF⟩:=Qa hF
    have h168:=St.unopt (h32.pick (.s (.s (.s (.s .z))))) e65
    obtain ⟨u72,h169⟩:=h168.unex
    obtain ⟨u73,h170⟩:=h169.unex
    have h171:=h170.unsep
    have h172:=(h171.pick (.s .z)).unsep
    obtain ⟨y27,e66,hF⟩:=Qa hF
    have h173:=h172.front (.cons (.s (.s .z)) (.cons .z (.cons .z .nil)))
    refine op (OpS.callO h173 Tryz.func24 rfl rfl rfl rfl (vs:=[u11]) rfl (Qcp e66) rfl .nil ?_)
    rintro u74 w43 _ _ _ ⟨_,rfl,rfl,rfl,rfl⟩ h174
    have h175:=h174
    simp only [ca,na] at h175
    obtain ⟨y28,e67,hF⟩:=Qa hF
    refine op (OpS.callP h175 Tryz.func27 rfl rfl rfl rfl (vs:=[u2,u74]) rfl (Qie e67) (.cons (f:=true) (V.at (.s (.s (.s (.s .z))))) (.own .z (.ptr (.s (.s (.s (.s (.s .z))))) .nil))) ?_)
    rintro _ w44 _ _ _ ⟨u75,rfl,rfl,rfl,rfl⟩ h176
    have h177:=h176 rfl rfl
    simp only [ca,na] at h177
    refine gm rfl (op (OpS.ext rfl rfl rfl rfl ?_))
    refine op (OpS.ext rfl rfl rfl rfl ?_)
    refine ga rfl ?_
    have h178:=(h177.pick .z).freeze
    refine ga rfl (nil (Run.seq (sr (gm rfl (gb rfl (gm rfl ?_))))))
    refine RunL.join (σ:=Bool) (λ s_ L_ w_=>L_=[(9,u2),(13,u12),(25,u75),(230,.bool s_)]∧St e w_ [(true,.val (Rep.slice Sensor_.rep) u2 y4.1),(true,.val (Rep.slice (Rep.int .u16)) u75 y28.1),Gqs] [(false,.opt (Qd.mem u12) u12 s4.2.2.2.2),(false,.box 166 (Qc.repW u9 u10) u3 s4.2.1),(false,.slice 5 (Rep.int .u8) u9 s4.2.1.bytes),(false,.slice 3 (Rep.int .i64) u10 s4.2.1.wear)]) hF (λ s13 _ w45 hI hF=>?_) (λ j11 hj11 hF=>?_)
    ·obtain ⟨rfl,h179⟩:=hI
     refine Run.ite rfl hF (λ e68 hF=>?_) (λ e68 hF=>?_)
     ·refine sr (ga rfl (nil (Run.retP rfl (.tmp rfl .nil) ?_)))
      cases hF
      exact Post.mk' ⟨rfl,rfl,rfl,rfl⟩ (h179.picks .nil) .nil
     refine Run.skip (Run.seq (sr (ga rfl (nil (Run.block (Run.slim [(9,u2),(13,u12),(25,u75),(27,.int .i64 0)] ⟨rfl,rfl,rfl,rfl,trivial⟩ ?_))))))
     refine Run.loopP (σ:=(Int×(Option Qd))) (λ s_ L_ w_=>∃ u0_:Value,L_=[(9,u2),(13,u0_),(25,u75),(27,.int .i64 s_.1)]∧St e w_ [(true,.val (Rep.slice Sensor_.rep) u2 y4.1),(true,.val (Rep.slice (Rep.int .u16)) u75 y28.1),Gqs] [(false,.opt (Qd.mem u0_) u0_ s_.2)]) hF ⟨u12,rfl,(h179.facts (.atm .z (.atm (.s .z) (.atm (.s (.s .z)) .nil)))).picks (.cons .z .nil)⟩ (λ k3 hk3 s14 _ w46 hI hF=>?_)
     obtain ⟨u76,rfl,h180⟩:=hI
     refine Run.seq (sr (gm rfl (gm rfl (op (OpS.len h180 Tryz.underlying27 rfl rfl rfl (V.at .z) ?_)))))
     refine gb rfl (nil ?_)
     refine Run.ite rfl hF (λ e69 hF=>?_) (λ e69 hF=>?_)
     ·refine Run.skip (Run.seq (Run.block (sr (gm rfl (gm rfl (gm rfl ?_))))))
      obtain ⟨x20,e70,hF⟩:=Qa hF
      refine op (OpS.iptr h180 Tryz.underlying27 ty74 rfl rfl rfl rfl (V.at .z) e70 (λ u77 h181=>?_))
      refine op (OpS.fptr h181 Qnr Sensor_.f0 rfl rfl rfl .z (λ u78 h182=>?_))
      refine op (OpS.loadi h182 ty5 rfl rfl rfl .z ?_)
      obtain ⟨x21,e71,hF⟩:=Qa hF
      have h183:=St.unopt (h182.pick .z) e71
      obtain ⟨u79,h184⟩:=h183.unex
      obtain ⟨u80,h185⟩:=h184.unex
      have h186:=h185.unsep
      have h187:=(h186.pick (.s .z)).unsep
      obtain ⟨y29,e72,hF⟩:=Qa hF
      have h188:=h187.front (.cons (.s (.s .z)) (.cons .z (.cons .z .nil)))
      refine op (OpS.callO h188 Tryz.func28 rfl rfl rfl rfl (vs:=[u76,.int .u8 x20.Number]) rfl (Qjh e72) rfl .nil ?_)
      rintro _ w47 _ _ _ ⟨rfl,rfl,rfl,rfl⟩ h189
      have h190:=h189
      simp only [ca,na] at h190
      refine gm rfl (op (OpS.ext rfl rfl rfl rfl ?_))
      refine op (OpS.ext rfl rfl rfl rfl ?_)
      refine ga rfl (ga rfl (nil (sr (gm rfl (op (OpS.not rfl rfl rfl ?_))))))
      refine gm rfl ?_
      refine RunL.join (σ:=Bool) (λ s_ L_ w_=>L_=[(9,u2),(13,u76),(25,u75),(27,.int .i64 s14.1),(256,.bool s_)]∧St e w_ [(true,.val (Rep.slice Sensor_.rep) u2 y4.1),(true,.val (Rep.slice (Rep.int .u16)) u75 y28.1),Gqs] [(false,.box 184 (Qd.repW u79 u80) u76 x21),(false,.slice 188 Filter_.rep u79 x21.filters),(false,.slice 49 (Rep.int .u16) u80 x21.states)]) hF (λ s15 _ w48 hI hF=>?_) (λ j12 hj12 hF=>?_)
      ·obtain ⟨rfl,h191⟩:=hI
       refine Run.ite rfl hF (λ e73 hF=>?_) (λ e73 hF=>?_)
       ·refine sr (ga rfl (nil (Run.retP rfl (.tmp rfl .nil) ?_)))
        cases hF
        exact Post.mk' ⟨rfl,rfl,rfl,rfl⟩ (h191.picks .nil) .nil
       refine Run.skip (Run.endBlock (Run.reg (gm rfl (gb rfl (ga rfl ?_)))))
       obtain ⟨x22,e74,hF⟩:=Qh hF
       refine RunL.name e74 ?_
       refine nil ?_
       have h192:=h191.front (.cons (.s .z) (.cons (.s .z) (.cons .z .nil)))
       have h193:=St.sep h192
       have h194:=St.sep (h193.pick (.s .z))
       have h195:=St.ex (H:=λ w1_=>.sep (.box 184 (Qd.repW u79 w1_) u76 x21) (.sep (.slice 188 Filter_.rep u79 x21.filters) (.slice 49 (Rep.int .u16) w1_ x21.states))) u80 h194
       have h196:=St.ex (H:=λ w0_=>.ex λ w1_=>.sep (.box 184 (Qd.repW w0_ w1_) u76 x21) (.sep (.slice 188 Filter_.rep w0_ x21.filters) (.slice 49 (Rep.int .u16) w1_ x21.states))) u79 h195
       have h197:=St.some (H:=(Qd.mem u76)) (q:=u76) (x:=x21) h196
       refine Run.slim [(9,u2),(13,u76),(25,u75),(27,.int .i64 x22)] ⟨rfl,rfl,rfl,rfl,trivial⟩ ?_
       exact hk3 (x22,(some x21)) _ _ ⟨u76,rfl,(h197.facts (.atm .z (.atm (.s .z) (.atm (.s (.s .z)) .nil)))).picks (.cons .z .nil)⟩ hF
      refine RunL.caseb hF (λ e75 hF=>?_) (λ e75 hF=>?_)
      ·refine gp rfl (gp rfl (gp rfl (gp rfl (gp rfl (gp rfl (gk rfl (nil (Run.slim [(9,u2),(13,u76),(25,u75),(27,.int .i64 s14.1),(256,.bool true)] ⟨rfl,rfl,rfl,rfl,rfl,trivial⟩ ?_))))))))
       exact hj12 (true) _ _ ⟨rfl,(h190.facts (.atm (.s (.s .z)) (.atm (.s (.s (.s .z))) (.atm (.s (.s (.s (.s .z)))) .nil)))).picks (.cons .z (.cons .z (.cons .z .nil)))⟩ hF
      refine gm rfl (gm rfl (gm rfl ?_))
      obtain ⟨x23,e76,hF⟩:=Qa hF
      refine op (OpS.iptr h190 Tryz.underlying60 ty49 rfl rfl rfl rfl (V.at (.s (.s (.s .z)))) e76 (λ u81 h198=>?_))
      refine op (OpS.loadi h198 ty49 rfl rfl rfl .z ?_)
      refine gb rfl (gk rfl (nil (Run.slim [(9,u2),(13,u76),(25,u75),(27,.int .i64 s14.1),(256,.bool (y29.1 != x23))] ⟨rfl,rfl,rfl,rfl,rfl,trivial⟩ ?_)))
      exact hj12 (y29.1 != x23) _ _ ⟨rfl,(h198.facts (.atm (.s (.s (.s .z))) (.atm (.s (.s (.s (.s .z)))) (.atm (.s (.s (.s (.s (.s .z))))) .nil)))).picks (.cons .z (.cons .z (.cons .z .nil)))⟩ hF
     refine Run.exit rfl ?_
     refine sr (ga rfl (nil (Run.retP rfl (.tmp rfl .nil) ?_)))
     cases hF
     exact Post.mk' ⟨rfl,rfl,rfl,rfl⟩ (h180.picks .nil) .nil
    refine RunL.caseb hF (λ e77 hF=>?_) (λ e77 hF=>?_)
    ·refine gp rfl (gp rfl (gp rfl (gp rfl (gp rfl (gk rfl (nil (Run.slim [(9,u2),(13,u12),(25,u75),(230,.bool true)] ⟨rfl,rfl,rfl,rfl,trivial⟩ ?_)))))))
     exact hj11 (true) _ _ ⟨rfl,(h178.facts (.atm (.s (.s (.s (.s (.s .z))))) (.atm .z (.atm (.s (.s (.s (.s (.s (.s .z)))))) .nil)))).picks (.cons (.s (.s (.s (.s (.s (.s (.s (.s .z)))))))) (.cons (.s (.s (.s (.s .z)))) (.cons (.s (.s (.s (.s (.s .z))))) (.cons (.s (.s (.s (.s (.s .z))))) .nil))))⟩ hF
    refine gm rfl (op (OpS.len h178 Tryz.underlying60 rfl rfl rfl (V.at .z) ?_))
    refine gm rfl (op (OpS.len h178 Tryz.underlying27 rfl rfl rfl (V.at (.s (.s (.s (.s (.s .z)))))) ?_))
    refine gb rfl (gk rfl (nil (Run.slim [(9,u2),(13,u12),(25,u75),(230,.bool ((y28.1.length:Int) != (y4.1.length:Int)))] ⟨rfl,rfl,rfl,rfl,trivial⟩ ?_)))
    exact hj11 ((y28.1.length:Int) != (y4.1.length:Int)) _ _ ⟨rfl,(h178.facts (.atm (.s (.s (.s (.s (.s .z))))) (.atm .z (.atm (.s (.s (.s (.s (.s (.s .z)))))) .nil)))).picks (.cons (.s (.s (.s (.s (.s (.s (.s (.s .z)))))))) (.cons (.s (.s (.s (.s .z)))) (.cons (.s (.s (.s (.s (.s .z))))) (.cons (.s (.s (.s (.s (.s .z))))) .nil))))⟩ hF
   refine RunL.caseb hF (λ e78 hF=>?_) (λ e78 hF=>?_)
   ·refine gp rfl (gp rfl (gk rfl (gm rfl (gp rfl (gp rfl (gk rfl (nil (Run.slim [(0,v0),(1,v1),(2,v2),(3,v3),(9,u2),(10,u3),(12,u6),(13,u7),(79,.bool true)] ⟨rfl,rfl,rfl,rfl,rfl,rfl,rfl,rfl,rfl,trivial⟩ ?_))))))))
    exact hj3 (true) _ _ ⟨rfl,(h29.facts (.atm .z (.atm (.s .z) (.atm (.s (.s .z)) (.atm (.s (.s (.s .z))) (.atm (.s (.s (.s (.s .z)))) (.atm (.s (.s (.s (.s (.s .z))))) .nil))))))).picks (.cons (.s (.s .z)) (.cons (.s .z) (.cons .z (.cons .z (.cons .z .nil)))))⟩ hF
   refine gm rfl (gb rfl (gk rfl (gm rfl ?_)))
   refine RunL.caseb hF (λ e79 hF=>?_) (λ e79 hF=>?_)
   ·refine gp rfl (gp rfl (gk rfl (nil (Run.slim [(0,v0),(1,v1),(2,v2),(3,v3),(9,u2),(10,u3),(12,u6),(13,u7),(79,.bool true)] ⟨rfl,rfl,rfl,rfl,rfl,rfl,rfl,rfl,rfl,trivial⟩ ?_))))
    exact hj3 (true) _ _ ⟨rfl,(h29.facts (.atm .z (.atm (.s .z) (.atm (.s (.s .z)) (.atm (.s (.s (.s .z))) (.atm (.s (.s (.s (.s .z)))) (.atm (.s (.s (.s (.s (.s .z))))) .nil))))))).picks (.cons (.s (.s .z)) (.cons (.s .z) (.cons .z (.cons .z (.cons .z .nil)))))⟩ hF
   refine gm rfl (op (OpS.onilE2 h29 .z (λ _=>PtrOf.ex λ _=>PtrOf.ex λ _=>PtrOf.sep PtrOf.box) Tryz.underlying38 rfl rfl rfl rfl ?_))
   refine gk rfl (nil (Run.slim [(0,v0),(1,v1),(2,v2),(3,v3),(9,u2),(10,u3),(12,u6),(13,u7),(79,.bool y7.isNone)] ⟨rfl,rfl,rfl,rfl,rfl,rfl,rfl,rfl,rfl,trivial⟩ ?_))
   exact hj3 (y7.isNone) _ _ ⟨rfl,(h29.facts (.atm .z (.atm (.s .z) (.atm (.s (.s .z)) (.atm (.s (.s (.s .z))) (.atm (.s (.s (.s (.s .z)))) (.atm (.s (.s (.s (.s (.s .z))))) .nil))))))).picks (.cons (.s (.s .z)) (.cons (.s .z) (.cons .z (.cons .z (.cons .z .nil)))))⟩ hF
  refine RunL.caseb hF (λ e80 hF=>?_) (λ e80 hF=>?_)
  ·refine gp rfl (gp rfl (gk rfl (nil (Run.slim [(0,v0),(1,v1),(2,v2),(3,v3),(9,u2),(10,u3),(62,.bool true)] ⟨rfl,rfl,rfl,rfl,rfl,rfl,rfl,trivial⟩ ?_))))
   exact hj2 (true) _ _ ⟨rfl,(h14.facts (.atm (.s .z) (.atm (.s (.s .z)) (.atm (.s (.s (.s .z))) (.atm (.s (.s (.s (.s .z)))) (.atm .z (.atm (.s (.s (.s (.s (.s .z))))) .nil))))))).picks (.cons .z .nil)⟩ hF
  refine gm rfl (gb rfl (gk rfl (nil (Run.slim [(0,v0),(1,v1),(2,v2),(3,v3),(9,u2),(10,u3),(62,.bool (y5.2 != 0))] ⟨rfl,rfl,rfl,rfl,rfl,rfl,rfl,trivial⟩ ?_))))
  exact hj2 (y5.2 != 0) _ _ ⟨rfl,(h14.facts (.atm (.s .z) (.atm (.s (.s .z)) (.atm (.s (.s (.s .z))) (.atm (.s (.s (.s (.s .z)))) (.atm .z (.atm (.s (.s (.s (.s (.s .z))))) .nil))))))).picks (.cons .z .nil)⟩ hF
 refine RunL.caseb hF (λ e81 hF=>?_) (λ e81 hF=>?_)
 ·refine gp rfl (gp rfl (gp rfl (gk rfl (gm rfl (gp rfl (gp rfl (gp rfl (gk rfl (gm rfl (gp rfl (gp rfl (gp rfl (gk rfl (nil (Run.slim [(0,v0),(1,v1),(2,v2),(3,v3),(49,.bool true)] ⟨rfl,rfl,rfl,rfl,rfl,trivial⟩ ?_)))))))))))))))
  exact hj1 (true) _ _ ⟨rfl,(h4.facts (.atm .z (.atm (.s .z) (.atm (.s (.s .z)) (.atm (.s (.s (.s .z))) (.atm (.s (.s (.s (.s .z)))) .nil)))))).picks .nil⟩ hF
 refine gm rfl (op (OpS.len h4 Tryz.underlying23 rfl rfl rfl (V.at (.s .z)) ?_))
 refine gb rfl (gk rfl (gm rfl ?_))
 refine RunL.caseb hF (λ e82 hF=>?_) (λ e82 hF=>?_)
 ·refine gp rfl (gp rfl (gp rfl (gk rfl (gm rfl (gp rfl (gp rfl (gp rfl (gk rfl (nil (Run.slim [(0,v0),(1,v1),(2,v2),(3,v3),(49,.bool true)] ⟨rfl,rfl,rfl,rfl,rfl,trivial⟩ ?_))))))))))
  exact hj1 (true) _ _ ⟨rfl,(h4.facts (.atm .z (.atm (.s .z) (.atm (.s (.s .z)) (.atm (.s (.s (.s .z))) (.atm (.s (.s (.s (.s .z)))) .nil)))))).picks .nil⟩ hF
 refine gm rfl (op (OpS.len h4 Tryz.underlying22 rfl rfl rfl (V.at (.s (.s .z))) ?_))
 refine gb rfl (gk rfl (gm rfl ?_))
 refine RunL.caseb hF (λ e83 hF=>?_) (λ e83 hF=>?_)
 ·refine gp rfl (gp rfl (gp rfl (gk rfl (nil (Run.slim [(0,v0),(1,v1),(2,v2),(3,v3),(49,.bool true)] ⟨rfl,rfl,rfl,rfl,rfl,trivial⟩ ?_)))))
  exact hj1 (true) _ _ ⟨rfl,(h4.facts (.atm .z (.atm (.s .z) (.atm (.s (.s .z)) (.atm (.s (.s (.s .z))) (.atm (.s (.s (.s (.s .z)))) .nil)))))).picks .nil⟩ hF
 refine gm rfl (op (OpS.len h4 Tryz.underlying24 rfl rfl rfl (V.at (.s (.s (.s .z)))) ?_))
 refine gb rfl (gk rfl (nil (Run.slim [(0,v0),(1,v1),(2,v2),(3,v3),(49,.bool (decide ((a3.length:Int)>25)))] ⟨rfl,rfl,rfl,rfl,rfl,trivial⟩ ?_)))
 exact hj1 (decide ((a3.length:Int)>25)) _ _ ⟨rfl,(h4.facts (.atm .z (.atm (.s .z) (.atm (.s (.s .z)) (.atm (.s (.s (.s .z))) (.atm (.s (.s (.s (.s .z)))) .nil)))))).picks .nil⟩ hF
end Lift
