import Derived.Test.YtahlmfpllhmjoaaGreatDoorTopHealthyWalksD
set_option linter.unusedVariables false
set_option linter.unusedSimpArgs false
namespace Lift
open Go Go.Proofs
open RunL (op sr nil gm ga gb gp gk dp du)
abbrev Gqs:Bool×Atom:=(false,.ptr (Rep.arr 6 (Rep.int .u8)) (.pointer (some ⟨0,0,none⟩)) ([0,2,4,7,9,11]))
set_option maxRecDepth 20000 in
theorem slices_insertionSortCmpFunc_api_Entity_entity_within_1_ok {fuel:Nat} {a0:List Entity_} {a1:Int} {a2:Int} {y:(List Entity_)} (hF:slices_insertionSortCmpFunc_api_Entity_entity_within_1 fuel a0 a1 a2=some y) {w:World} {v0:Value} :
  Spec Tryz.prog 263 [v0,.int .i64 a1,.int .i64 a2,.func (.func 219) #[] #[]].toArray w [] [(false,.slice 66 Entity_.rep v0 a0)] (λ v Γr Ωr Ωo=>v=.tuple #[]∧Γr=[]∧Ωr=[]∧Ωo=[(false,.slice 66 Entity_.rep v0 y)]):=by
 refine Spec.of (L:=[(0,v0),(1,.int .i64 a1),(2,.int .i64 a2),(3,.func (.func 219) #[] #[])]) Tryz.func263 rfl ⟨rfl,rfl,rfl,rfl,trivial⟩ rfl (λ e h=>?_)
 unfold slices_insertionSortCmpFunc_api_Entity_entity_within_1 at hF
 refine sr (gm rfl (gb rfl (ga rfl ?_)))
 obtain ⟨x1,e1,hF⟩:=letP_use hF
 refine RunL.name e1 ?_
 refine nil (Run.block (Run.slim [(0,v0),(1,.int .i64 a1),(2,.int .i64 a2),(3,.func (.func 219) #[] #[]),(8,.int .i64 x1)] ⟨rfl,rfl,rfl,rfl,rfl,trivial⟩ ?_))
 refine Run.loopP (σ:=(Int×(List Entity_))) (λ s_ L_ w_=>L_=[(0,v0),(1,.int .i64 a1),(2,.int .i64 a2),(3,.func (.func 219) #[] #[]),(8,.int .i64 s_.1)]∧St e w_ [] [(false,.slice 66 Entity_.rep v0 s_.2)]) hF ⟨rfl,(h.facts .nil).picks (.cons .z .nil)⟩ (λ k1 hk1 s1 _ w1 hI hF=>?_)
 obtain ⟨rfl,h1⟩:=hI
 refine Run.seq (sr (gm rfl (gm rfl (gb rfl (nil ?_)))))
 refine Run.ite rfl hF (λ e2 hF=>?_) (λ e2 hF=>?_)
 ·refine Run.skip (Run.seq (Run.block (sr (gm rfl (ga rfl (nil (Run.block (Run.slim [(0,v0),(1,.int .i64 a1),(2,.int .i64 a2),(3,.func (.func 219) #[] #[]),(8,.int .i64 s1.1),(9,.int .i64 s1.1)] ⟨rfl,rfl,rfl,rfl,rfl,rfl,trivial⟩ ?_))))))))
  refine Run.loopP (σ:=(Int×(List Entity_))) (λ s_ L_ w_=>L_=[(0,v0),(1,.int .i64 a1),(2,.int .i64 a2),(3,.func (.func 219) #[] #[]),(8,.int .i64 s1.1),(9,.int .i64 s_.1)]∧St e w_ [] [(false,.slice 66 Entity_.rep v0 s_.2)]) hF ⟨rfl,(h1.facts .nil).picks (.cons .z .nil)⟩ (λ k2 hk2 s2 _ w2 hI hF=>?_)
  obtain ⟨rfl,h2⟩:=hI
  refine Run.seq (Run.seq ?_)
  refine Run.join (σ:=Bool) (λ s_ L_ w_=>L_=[(0,v0),(1,.int .i64 a1),(2,.int .i64 a2),(3,.func (.func 219) #[] #[]),(8,.int .i64 s1.1),(9,.int .i64 s2.1),(34,.bool s_)]∧St e w_ [] [(false,.slice 66 Entity_.rep v0 s2.2)]) hF (λ s3 _ w3 hI hF=>?_) (λ j1 hj1 hF=>?_)
  ·obtain ⟨rfl,h3⟩:=hI
   refine Run.ite rfl hF (λ e3 hF=>?_) (λ e3 hF=>?_)
   ·refine Run.skip (Run.seq (Run.block ?_))
    obtain ⟨x2,e4,hF⟩:=bindP_use hF
    obtain ⟨x3,e5,hF⟩:=bindP_use hF
    obtain ⟨d1,e6,hF⟩:=letP_use hF
    refine Run.drawV (Ωs:=[]) [.k 37 v0,.k 38 (.int .i64 s2.1),.k 39 v0,.k 40 (.int .i64 s2.1),.k 41 (.int .i64 (IntKind.i64.wrap (s2.1-1))),.k 42 v0,.k 43 (.int .i64 s2.1),.k 44 (.int .i64 (IntKind.i64.wrap (s2.1-1))),⟨some 45,some ((padd (sp v0) (((IntKind.i64.wrap (s2.1-1)):Int).toNat*Entity_.rep.n))),λ _=>[],λ ds_ u_=>[],[],[(0,[15,8])],none⟩,⟨some 46,none,λ u_=>[(false,.val Entity_.rep u_ x2)],λ ds_ u_=>[],[],[(0,[15,9])],none⟩,.k 47 v0,.k 48 (.int .i64 s2.1),⟨some 49,some ((padd (sp v0) ((s2.1:Int).toNat*Entity_.rep.n))),λ _=>[],λ ds_ u_=>[],[],[(0,[15,13,12])],none⟩,⟨some 50,none,λ u_=>[(false,.val Entity_.rep u_ x3)],λ ds_ u_=>[],[],[(0,[15,13])],none⟩,⟨some 51,some ((padd (sp v0) ((s2.1:Int).toNat*Entity_.rep.n))),λ _=>[],λ ds_ u_=>[],[],[(0,[15,14])],none⟩,⟨none,some undef,λ _=>[],λ ds_ u_=>[(false,.slice 66 Entity_.rep v0 d1)],[0],[],none⟩] [[],[],[],[],[3],[],[],[6],[5,7],[8],[],[],[10,11],[12],[0,1],[14,9]] [[(false,.slice 66 Entity_.rep v0 s2.2)]] [1,2,3,4,5,6,7,8,9,10,11,12,13,14,15,16] Try_mixed rfl rfl rfl h3 (.cons ?_ (.cons ?_ (.cons ?_ (.cons ?_ (.cons ?_ (.cons ?_ (.cons ?_ (.cons ?_ (.cons ?_ (.cons ?_ (.cons ?_ (.cons ?_ (.cons ?_ (.cons ?_ (.cons ?_ (.cons ?_ .nil)))))))))))))))) (λ q1 w hq1 h=>?_)
    ·intro q1 w Γx Ωx h
     refine OpS.mv rfl rfl rfl ?_
     exact du h
    ·intro q1 w Γx Ωx h
     refine OpS.mv rfl rfl rfl ?_
     exact du h
    ·intro q1 w Γx Ωx h
     refine OpS.mv rfl rfl rfl ?_
     exact du h
    ·intro q1 w Γx Ωx h
     refine OpS.mv rfl rfl rfl ?_
     exact du h
    ·intro q1 w Γx Ωx h
     refine OpS.bin rfl rfl rfl rfl rfl ?_
     exact du h
    ·intro q1 w Γx Ωx h
     refine OpS.mv rfl rfl rfl ?_
     exact du h
    ·intro q1 w Γx Ωx h
     refine OpS.mv rfl rfl rfl ?_
     exact du h
    ·intro q1 w Γx Ωx h
     refine OpS.bin rfl rfl rfl rfl rfl ?_
     exact du h
    ·intro q1 w Γx Ωx h
     refine OpS.iown h .z Tryz.underlying43 ty66 rfl rfl rfl rfl e4 ?_
     exact du h
    ·intro q1 w Γx Ωx h
     refine OpS.loadO h .z (idx_ne e4) PA.a (Get.arr e4) ty66 rfl rfl rfl (λ u h7=>?_)
     exact ⟨u,rfl,trivial,h7⟩
    ·intro q1 w Γx Ωx h
     refine OpS.mv rfl rfl rfl ?_
     exact du h
    ·intro q1 w Γx Ωx h
     refine OpS.mv rfl rfl rfl ?_
     exact du h
    ·intro q1 w Γx Ωx h
     refine OpS.iown h .z Tryz.underlying43 ty66 rfl rfl rfl rfl e5 ?_
     exact du h
    ·intro q1 w Γx Ωx h
     refine OpS.loadO h .z (idx_ne e5) PA.a (Get.arr e5) ty66 rfl rfl rfl (λ u h8=>?_)
     exact ⟨u,rfl,trivial,h8⟩
    ·intro q1 w Γx Ωx h
     refine OpS.iown h .z Tryz.underlying43 ty66 rfl rfl rfl rfl e5 ?_
     exact du h
    ·intro q1 w Γx Ωx h
     refine OpS.storeO (f':=false) h .z (idx_ne e5) PA.a (Put.of (Put.arr e5) e6) ty66 rfl rfl rfl (V.at .z) (.inr rfl) (λ w5 h9=>?_)
     exact ⟨undef,trivial,trivial,h9⟩
    have h10:=h
    obtain ⟨x4,e7,hF⟩:=bindP_use hF
    refine op (OpS.iown h10 .z Tryz.underlying43 ty66 rfl rfl rfl rfl e7 ?_)
    obtain ⟨d2,e8,hF⟩:=letP_use hF
    refine op (OpS.storeO (f':=false) h10 .z (idx_ne e7) PA.a (Put.of (Put.arr e7) e8) ty66 rfl rfl rfl (V.at (.s .z)) (.inr rfl) (λ w6 h11=>?_))
    refine nil (Run.endBlock (Run.reg (gm rfl (gb rfl (ga rfl ?_)))))
    obtain ⟨x5,e9,hF⟩:=letP_use hF
    refine RunL.name e9 ?_
    refine nil (Run.slim [(0,v0),(1,.int .i64 a1),(2,.int .i64 a2),(3,.func (.func 219) #[] #[]),(8,.int .i64 s1.1),(9,.int .i64 x5)] ⟨rfl,rfl,rfl,rfl,rfl,rfl,trivial⟩ ?_)
    exact hk2 (x5,d2) _ _ ⟨rfl,(h11.facts .nil).picks (.cons .z .nil)⟩ hF
   refine Run.exit rfl ?_
   refine Run.endBlock (Run.reg (gm rfl (gb rfl (ga rfl ?_))))
   obtain ⟨x6,e10,hF⟩:=letP_use hF
   refine RunL.name e10 ?_
   refine nil (Run.slim [(0,v0),(1,.int .i64 a1),(2,.int .i64 a2),(3,.func (.func 219) #[] #[]),(8,.int .i64 x6)] ⟨rfl,rfl,rfl,rfl,rfl,trivial⟩ ?_)
   exact hk1 (x6,s2.2) _ _ ⟨rfl,(h3.facts .nil).picks (.cons .z .nil)⟩ hF
  obtain ⟨x7,e11,hF⟩:=letP_use hF
  refine iteP_use hF (λ e12 hF=>?_) (λ e12 hF=>?_)
  ·have hG:=hF
   subst e12
   have hF:=hG
   obtain ⟨x8,e13,hF⟩:=bindP_use hF
   obtain ⟨x9,e14,hF⟩:=bindP_use hF
   refine Run.drawV (Ωs:=[]) [.k 18 (.int .i64 s2.1),.k 19 (.int .i64 a1),.k 20 (.bool (decide (s2.1>a1))),.k 21 (.bool true),.k 22 (.func (.func 219) #[] #[]),.k 23 v0,.k 24 (.int .i64 s2.1),.kr 25 (padd (sp v0) ((s2.1:Int).toNat*Entity_.rep.n)) [0],.fr 26 (λ u_=>[(false,.val Entity_.rep u_ x8)]) [0],.k 27 v0,.k 28 (.int .i64 s2.1),.k 29 (.int .i64 (IntKind.i64.wrap (s2.1-1))),.kr 30 (padd (sp v0) (((IntKind.i64.wrap (s2.1-1)):Int).toNat*Entity_.rep.n)) [0],.fr 31 (λ u_=>[(false,.val Entity_.rep u_ x9)]) [0]] [[],[],[0,1],[2],[3],[3],[3],[5,6,3],[7,3],[3],[3],[10,3],[9,11,3],[12,3]] [[(false,.slice 66 Entity_.rep v0 s2.2)]] [0,1,2,3,4,5,6,7,8,9,10,11,12,13,14] Try_mixed rfl rfl rfl h2 (.cons ?_ (.cons ?_ (.cons ?_ (.cons ?_ (.cons ?_ (.cons ?_ (.cons ?_ (.cons ?_ (.cons ?_ (.cons ?_ (.cons ?_ (.cons ?_ (.cons ?_ (.cons ?_ .nil)))))))))))))) (λ q2 w hq2 h=>?_)
   ·intro q2 w Γx Ωx h
    refine OpS.mv rfl rfl rfl ?_
    exact du h
   ·intro q2 w Γx Ωx h
    refine OpS.mv rfl rfl rfl ?_
    exact du h
   ·intro q2 w Γx Ωx h
    refine OpS.bin rfl rfl rfl rfl rfl ?_
    exact du h
   ·intro q2 w Γx Ωx h
    refine OpS.mv rfl rfl rfl ?_
    exact ⟨undef,(congrArg (λ z_=>some (Value.bool z_)) e11),trivial,h⟩
   ·intro q2 w Γx Ωx h
    refine OpS.mv rfl rfl rfl ?_
    exact du h
   ·intro q2 w Γx Ωx h
    refine OpS.mv rfl rfl rfl ?_
    exact du h
   ·intro q2 w Γx Ωx h
    refine OpS.mv rfl rfl rfl ?_
    exact du h
   ·intro q2 w Γx Ωx h
    refine OpS.iown h .z Tryz.underlying43 ty66 rfl rfl rfl rfl e13 ?_
    exact du h
   ·intro q2 w Γx Ωx h
    refine OpS.loadO h .z (idx_ne e13) PA.a (Get.arr e13) ty66 rfl rfl rfl (λ u h14=>?_)
    exact ⟨u,rfl,trivial,h14⟩
   ·intro q2 w Γx Ωx h
    refine OpS.mv rfl rfl rfl ?_
    exact du h
   ·intro q2 w Γx Ωx h
    refine OpS.mv rfl rfl rfl ?_
    exact du h
   ·intro q2 w Γx Ωx h
    refine OpS.bin rfl rfl rfl rfl rfl ?_
    exact du h
   ·intro q2 w Γx Ωx h
    refine OpS.iown h .z Tryz.underlying43 ty66 rfl rfl rfl rfl e14 ?_
    exact du h
   ·intro q2 w Γx Ωx h
    refine OpS.loadO h .z (idx_ne e14) PA.a (Get.arr e14) ty66 rfl rfl rfl (λ u h15=>?_)
    exact ⟨u,rfl,trivial,h15⟩
   have h16:=h
   obtain ⟨y1,e15,hF⟩:=bindP_use hF
   refine op (OpS.callPF (fl:=[]) (cl:=[]) h16 Tryz.func219 rfl rfl rfl rfl rfl (vs:=[(q2 8),(q2 13)]) rfl (entity_within_1_ok e15) (.cons (f:=false) (V.at .z) (.cons (f:=false) (V.at (.s .z)) .nil)) ?_)
   rintro _ w7 _ _ _ ⟨rfl,rfl,rfl,rfl⟩ h17
   have h18:=h17 rfl rfl
   simp only [ca,na] at h18
   refine gb rfl (gk rfl (nil (Run.slim [(0,v0),(1,.int .i64 a1),(2,.int .i64 a2),(3,.func (.func 219) #[] #[]),(8,.int .i64 s1.1),(9,.int .i64 s2.1),(34,.bool (decide (y1<0)))] ⟨rfl,rfl,rfl,rfl,rfl,rfl,rfl,trivial⟩ ?_)))
   exact hj1 (decide (y1<0)) _ _ ⟨rfl,(h18.facts .nil).picks (.cons .z .nil)⟩ hF
  have hG:=hF
  subst e12
  have hF:=hG
  refine Run.drawV (Ωs:=[]) [.k 18 (.int .i64 s2.1),.k 19 (.int .i64 a1),.k 20 (.bool (decide (s2.1>a1))),.k 21 (.bool false),.k 22 undef,.k 23 undef,.k 24 undef,.k 25 undef,.k 26 undef,.k 27 undef,.k 28 undef,.k 29 undef,.k 30 undef,.k 31 undef] [[],[],[0,1],[2],[3],[3],[3],[3],[3],[3],[3],[3],[3],[3]] [[(false,.slice 66 Entity_.rep v0 s2.2)]] [0,1,2,3,4,5,6,7,8,9,10,11,12,13,14] Try_mixed rfl rfl rfl h2 (.cons ?_ (.cons ?_ (.cons ?_ (.cons ?_ (.cons (dp λ _=>rfl) (.cons (dp λ _=>rfl) (.cons (dp λ _=>rfl) (.cons (dp λ _=>rfl) (.cons (dp λ _=>rfl) (.cons (dp λ _=>rfl) (.cons (dp λ _=>rfl) (.cons (dp λ _=>rfl) (.cons (dp λ _=>rfl) (.cons (dp λ _=>rfl) .nil)))))))))))))) (λ q2 w hq3 h=>?_)
  ·intro q2 w Γx Ωx h
   refine OpS.mv rfl rfl rfl ?_
   exact du h
  ·intro q2 w Γx Ωx h
   refine OpS.mv rfl rfl rfl ?_
   exact du h
  ·intro q2 w Γx Ωx h
   refine OpS.bin rfl rfl rfl rfl rfl ?_
   exact du h
  ·intro q2 w Γx Ωx h
   refine OpS.mv rfl rfl rfl ?_
   exact ⟨undef,(congrArg (λ z_=>some (Value.bool z_)) e11),trivial,h⟩
  have h19:=h
  refine gp rfl (gp rfl (gk rfl (nil (Run.slim [(0,v0),(1,.int .i64 a1),(2,.int .i64 a2),(3,.func (.func 219) #[] #[]),(8,.int .i64 s1.1),(9,.int .i64 s2.1),(34,.bool false)] ⟨rfl,rfl,rfl,rfl,rfl,rfl,rfl,trivial⟩ ?_))))
  exact hj1 (false) _ _ ⟨rfl,(h19.facts .nil).picks (.cons .z .nil)⟩ hF
 refine Run.exit rfl ?_
 refine Run.finP rfl .nil ?_
 cases hF
 exact Post.mk' ⟨rfl,rfl,rfl,rfl⟩ (h1.picks (.cons .z .nil)) .nil
theorem slices_pdqsortCmpFunc_api_Entity_entity_within_1_ok {fuel:Nat} {a0:List Entity_} {a1:Int} {a2:Int} {a3:Int} {y:(List Entity_)} (hF:slices_pdqsortCmpFunc_api_Entity_entity_within_1 fuel a0 a1 a2 a3=some y) {w:World} {v0:Value} :
  Spec Tryz.prog 247 [v0,.int .i64 a1,.int .i64 a2,.int .i64 a3,.func (.func 219) #[] #[]].toArray w [] [(false,.slice 66 Entity_.rep v0 a0)] (λ v Γr Ωr Ωo=>v=.tuple #[]∧Γr=[]∧Ωr=[]∧Ωo=[(false,.slice 66 Entity_.rep v0 y)]):=by
 refine Spec.of (L:=[(0,v0),(1,.int .i64 a1),(2,.int .i64 a2),(3,.int .i64 a3),(4,.func (.func 219) #[] #[])]) Tryz.func247 rfl ⟨rfl,rfl,rfl,rfl,rfl,trivial⟩ rfl (λ e h=>?_)
 unfold slices_pdqsortCmpFunc_api_Entity_entity_within_1 at hF
 refine sr (ga rfl (nil (sr (ga rfl (nil (Run.block (Run.slim [(0,v0),(1,.int .i64 a1),(2,.int .i64 a2),(3,.int .i64 a3),(4,.func (.func 219) #[] #[]),(10,.bool true),(11,.bool true)] ⟨rfl,rfl,rfl,rfl,rfl,rfl,rfl,trivial⟩ ?_)))))))
 refine Run.loopP (σ:=Unit) (λ s_ L_ w_=>L_=[(0,v0),(1,.int .i64 a1),(2,.int .i64 a2),(3,.int .i64 a3),(4,.func (.func 219) #[] #[]),(10,.bool true),(11,.bool true)]∧St e w_ [] [(false,.slice 66 Entity_.rep v0 a0)]) hF ⟨rfl,(h.facts .nil).picks (.cons .z .nil)⟩ (λ k1 hk1 s1 _ w1 hI hF=>?_)
 obtain ⟨rfl,h1⟩:=hI
 refine Run.block (sr (gm rfl (gm rfl (gb rfl (ga rfl ?_)))))
 obtain ⟨x1,e1,hF⟩:=letP_use hF
 refine RunL.name e1 ?_
 refine nil (Run.seq (sr (gm rfl (gb rfl (nil ?_)))))
 refine Run.ite rfl hF (λ e2 hF=>?_) (λ e2 hF=>?_)
 ·refine sr (gm rfl (gm rfl (gm rfl (gm rfl ?_))))
  obtain ⟨y1,e3,hF⟩:=bindP_use hF
  have h2:=h1.front (.cons .z .nil)
  refine op (OpS.callO h2 Tryz.func263 rfl rfl rfl rfl (vs:=[v0,.int .i64 a1,.int .i64 a2,.func (.func 219) #[] #[]]) rfl (slices_insertionSortCmpFunc_api_Entity_entity_within_1_ok e3) rfl .nil ?_)
  rintro _ w2 _ _ _ ⟨rfl,rfl,rfl,rfl⟩ h3
  have h4:=h3
  simp only [ca,na] at h4
  refine nil (Run.retP rfl .nil ?_)
  cases hF
  exact Post.mk' ⟨rfl,rfl,rfl,rfl⟩ (h4.picks (.cons .z .nil)) .nil
 refine Run.skip (Run.seq (sr (gm rfl (gb rfl (nil ?_)))))
 refine Run.ite rfl hF (λ e4 hF=>?_) (λ e4 hF=>?_)
 ·refine sr (gm rfl (gm rfl (gm rfl (gm rfl ?_))))
  cases hF
 refine Run.skip (Run.seq (sr (gm rfl (op (OpS.not rfl rfl rfl ?_)))))
 refine nil ?_
 refine Run.ite rfl hF (λ e5 hF=>?_) (λ e5 hF=>?_)
 ·refine sr (gm rfl (gm rfl (gm rfl (gm rfl ?_))))
  cases hF
 refine Run.skip (sr (gm rfl (gm rfl (gm rfl (gm rfl ?_)))))
 cases hF
theorem slices_SortFunc_api_Entity_api_Entity_entity_within_1_ok {fuel:Nat} {a0:List Entity_} {y:(List Entity_)} (hF:slices_SortFunc_api_Entity_api_Entity_entity_within_1 fuel a0=some y) {w:World} {v0:Value} :
  Spec Tryz.prog 218 [v0,.func (.func 219) #[] #[]].toArray w [] [(false,.slice 66 Entity_.rep v0 a0)] (λ v Γr Ωr Ωo=>v=.tuple #[]∧Γr=[]∧Ωr=[]∧Ωo=[(false,.slice 66 Entity_.rep v0 y)]):=by
 refine Spec.of (L:=[(0,v0),(1,.func (.func 219) #[] #[])]) Tryz.func218 rfl ⟨rfl,rfl,trivial⟩ rfl (λ e h=>?_)
 unfold slices_SortFunc_api_Entity_api_Entity_entity_within_1 at hF
 refine sr (gm rfl (op (OpS.lenO h .z Tryz.underlying43 rfl rfl rfl ?_)))
 refine ga rfl (nil (Run.reg (gm rfl (gm rfl (gm rfl (op (OpS.conv Tryz.underlying3 Tryz.underlying271 rfl rfl rfl ?_)))))))
 obtain ⟨y1,e1,hF⟩:=bindP_use hF
 refine op (OpS.callP h Tryz.func246 rfl rfl rfl rfl (vs:=[.int .u64 (IntKind.u64.wrap (a0.length:Int))]) rfl (bits_Len_ok e1) .nil ?_)
 rintro _ w1 _ _ _ ⟨rfl,rfl,rfl,rfl⟩ h1
 have h2:=h1 rfl rfl
 simp only [ca,na] at h2
 refine gm rfl ?_
 obtain ⟨y2,e2,hF⟩:=bindP_use hF
 have h3:=h2.front (.cons .z .nil)
 refine op (OpS.callO h3 Tryz.func247 rfl rfl rfl rfl (vs:=[v0,.int .i64 0,.int .i64 (a0.length:Int),.int .i64 y1,.func (.func 219) #[] #[]]) rfl (slices_pdqsortCmpFunc_api_Entity_entity_within_1_ok e2) rfl .nil ?_)
 rintro _ w2 _ _ _ ⟨rfl,rfl,rfl,rfl⟩ h4
 have h5:=h4
 simp only [ca,na] at h5
 refine nil (Run.finP rfl .nil ?_)
 cases hF
 exact Post.mk' ⟨rfl,rfl,rfl,rfl⟩ (h5.picks (.cons .z .nil)) .nil
set_option maxRecDepth 20000 in
theorem entity_within_ok {fuel:Nat} {a0:List Association_} {a1:Entity_} {y:(List Entity_)} (hF:entity_within fuel a0 a1=some y) {w:World} {v0 v1:Value} :
  Spec Tryz.prog 169 [v0,v1].toArray w [(false,.val (Rep.slice Association_.rep) v0 a0),(false,.val Entity_.rep v1 a1)] [] (λ v Γr Ωr Ωo=>∃ u0:Value,v=u0∧Γr=[]∧Ωr=[(false,(.slice 66 Entity_.rep u0 y))]∧Ωo=[]):=by
 refine Spec.of (L:=[(0,v0),(1,v1)]) Tryz.func169 rfl ⟨rfl,rfl,trivial⟩ rfl (λ e h=>?_)
 unfold entity_within at hF
 refine sr (op (OpS.boxF h rfl rfl rfl (V.at (.s .z)) (λ u1 w1 h1=>?_)))
 refine ga rfl (nil (sr (op (OpS.loadB h1 .z PA.z Get.id ty66 rfl rfl rfl (λ u2 h2=>?_)))))
 refine op (OpS.litO (r:=Entity_.rep) (f:=false) h2 Tryz.underlying43 ti66 rfl rfl rfl rfl rfl (.cons rfl (V.at .z) .nil) rfl rfl (λ u3 w2 h3=>?_))
 refine ga rfl (nil (Run.seq (sr (gm rfl (op (OpS.len h3 Tryz.underlying76 rfl rfl rfl (V.at (.s .z)) ?_))))))
 refine gm rfl (nil (Run.block (Run.slim [(0,v0),(3,u1),(5,u3),(10,v0),(11,.int .i64 (a0.length:Int)),(12,.int .i64 0)] ⟨rfl,rfl,rfl,rfl,rfl,rfl,trivial⟩ ?_)))
 refine Run.loopP (σ:=(Int×(List Entity_))) (λ s_ L_ w_=>∃ u0_:Value,L_=[(0,v0),(3,u1),(5,u0_),(10,v0),(11,.int .i64 (a0.length:Int)),(12,.int .i64 s_.1)]∧St e w_ [(false,.val (Rep.slice Association_.rep) v0 a0)] [(false,.box 66 Entity_.rep u1 a1),(false,.slice 66 Entity_.rep u0_ s_.2)]) hF ⟨u3,rfl,(h3.facts (.atm (.s .z) .nil)).picks (.cons (.s .z) (.cons .z .nil))⟩ (λ k1 hk1 s1 _ w3 hI hF=>?_)
 obtain ⟨u4,rfl,h4⟩:=hI
 refine sr (gb rfl (nil (Run.seq ?_)))
 refine Run.ite rfl hF (λ e1 hF=>?_) (λ e1 hF=>?_)
 ·refine Run.skip (Run.seq (Run.block (sr ?_)))
  obtain ⟨x1,e2,hF⟩:=bindP_use hF
  refine op (OpS.iptr h4 Tryz.underlying76 ty83 rfl rfl rfl rfl (V.at .z) e2 (λ u5 h5=>?_))
  refine op (OpS.load h5 ty83 rfl rfl rfl .z (λ u6 h6=>?_))
  refine op (OpS.alloc h6 ti83 Association_.zr rfl rfl (λ u7 w4 h7=>?_))
  have h8:=(h7.pick .z).weak
  refine op (OpS.storeB (f':=false) h8 .z PA.z Put.id ty83 rfl rfl rfl (V.at .z) (.inr rfl) (λ w5 h9=>?_))
  refine nil (Run.seq ?_)
  obtain ⟨y1,e3,hF⟩:=bindP_use hF
  refine Run.drawV (Ωs:=[(false,.slice 66 Entity_.rep u4 s1.2)]) [.k 16 v0,.kr 17 (padd u7 2) [0],.fr 18 (λ u_=>[(false,.val Entity_.rep u_ x1.Contained)]) [0],.f 19 (λ u_=>[(true,.val (Rep.slice Entity_.rep) u_ y1)]),.fr 20 (λ u_=>[(false,.val Entity_.rep u_ a1)]) [1]] [[],[],[1],[0,2],[]] [[(false,.box 83 Association_.rep u7 x1)],[(false,.box 66 Entity_.rep u1 a1)]] [0,1,2,3,4,5,6] Try_mixed rfl rfl rfl h9 (.cons ?_ (.cons ?_ (.cons ?_ (.cons ?_ (.cons ?_ .nil))))) (λ q1 w hq1 h=>?_)
  ·intro q1 w Γx Ωx h
   refine OpS.mv rfl rfl rfl ?_
   exact du h
  ·intro q1 w Γx Ωx h
   refine OpS.fbox (o3:=2) h .z PA.z fa83_1 rfl rfl rfl rfl ?_
   exact du h
  ·intro q1 w Γx Ωx h
   refine OpS.loadB h .z PA.a (Get.fld Association_.f1) ty66 rfl rfl rfl (λ u h15=>?_)
   exact ⟨u,rfl,trivial,h15⟩
  ·intro q1 w Γx Ωx h
   refine OpS.callP h Tryz.func161 rfl rfl rfl rfl (vs:=[v0,(q1 2)]) rfl (entity_around_ok e3) (.cons (f:=false) (V.at (.s (.s (.s .z)))) (.cons (f:=false) (V.at .z) .nil)) ?_
   rintro u w7 _ _ _ ⟨_,rfl,rfl,rfl,rfl⟩ h16
   have h17:=h16 rfl rfl
   simp only [ca,na] at h17
   have h18:=h17.freeze
   exact ⟨u,rfl,trivial,h18⟩
  ·intro q1 w Γx Ωx h
   refine OpS.loadB h .z PA.z Get.id ty66 rfl rfl rfl (λ u h19=>?_)
   exact ⟨u,rfl,trivial,h19⟩
  have h20:=h
  obtain ⟨y2,e4,hF⟩:=bindP_use hF
  refine op (OpS.callP h20 Tryz.func160 rfl rfl rfl rfl (vs:=[(q1 3),(q1 4)]) rfl (slices_Contains_api_Entity_api_Entity_ok e4) (.cons (f:=true) (V.at (.s .z)) (.cons (f:=false) (V.at (.s (.s .z))) .nil)) ?_)
  rintro _ w8 _ _ _ ⟨rfl,rfl,rfl,rfl⟩ h21
  have h22:=h21 rfl rfl
  simp only [ca,na] at h22
  refine nil ?_
  refine Run.ite rfl hF (λ e5 hF=>?_) (λ e5 hF=>?_)
  ·refine Run.reg (gm rfl (op (OpS.fbox (o3:=2) h22 .z PA.z fa83_1 rfl rfl rfl rfl ?_)))
   refine op (OpS.loadB h22 .z PA.a (Get.fld Association_.f1) ty66 rfl rfl rfl (λ u8 h23=>?_))
   refine op (OpS.lit (r:=Entity_.rep) (f:=false) h23 Tryz.underlying43 ti66 rfl rfl rfl rfl rfl (.cons rfl (V.at .z) .nil) rfl rfl (λ u9 w9 h24=>?_))
   obtain ⟨x2,e6,hF⟩:=bindP_use hF
   refine op (OpS.app (f':=false) h24 (.s (.s .z)) Tryz.underlying43 ti66 rfl rfl rfl rfl rfl rfl rfl (V.at .z) (.inr Entity_.pure) e6 (λ u10 w10 h25=>?_))
   refine ga rfl (nil (Run.endBlock (Run.reg (gb rfl (gm rfl (nil (Run.slim [(0,v0),(3,u1),(5,u10),(10,v0),(11,.int .i64 (a0.length:Int)),(12,.int .i64 (IntKind.i64.wrap (s1.1+1)))] ⟨rfl,rfl,rfl,rfl,rfl,rfl,trivial⟩ ?_)))))))
   exact hk1 ((IntKind.i64.wrap (s1.1+1)),x2) _ _ ⟨u10,rfl,(h25.facts (.atm (.s (.s (.s (.s (.s (.s (.s .z))))))) .nil)).picks (.cons (.s (.s .z)) (.cons .z .nil))⟩ hF
  refine Run.skip (Run.endBlock (Run.reg (gb rfl (gm rfl (nil (Run.slim [(0,v0),(3,u1),(5,u4),(10,v0),(11,.int .i64 (a0.length:Int)),(12,.int .i64 (IntKind.i64.wrap (s1.1+1)))] ⟨rfl,rfl,rfl,rfl,rfl,rfl,trivial⟩ ?_))))))
  exact hk1 ((IntKind.i64.wrap (s1.1+1)),s1.2) _ _ ⟨u4,rfl,(h22.facts (.atm (.s (.s (.s (.s (.s .z))))) .nil)).picks (.cons (.s .z) (.cons (.s .z) .nil))⟩ hF
 refine Run.exit rfl ?_
 refine sr (gm rfl ?_)
 obtain ⟨y3,e7,hF⟩:=bindP_use hF
 have h26:=h4.front (.cons (.s .z) .nil)
 refine op (OpS.callO h26 Tryz.func218 rfl rfl rfl rfl (vs:=[u4,.func (.func 219) #[] #[]]) rfl (slices_SortFunc_api_Entity_api_Entity_entity_within_1_ok e7) rfl .nil ?_)
 rintro _ w11 _ _ _ ⟨rfl,rfl,rfl,rfl⟩ h27
 have h28:=h27
 simp only [ca,na] at h28
 refine nil (sr (gm rfl (ga rfl (nil (Run.retP rfl (.tmp rfl .nil) ?_)))))
 cases hF
 exact Post.mk' ⟨u4,rfl,rfl,rfl,rfl⟩ (h28.picks (.cons .z .nil)) .nil
theorem slices_IndexFunc_api_Condition_api_Condition_entity_Health_1_ok {fuel:Nat} {a0:List Condition_} {y:Int} (hF:slices_IndexFunc_api_Condition_api_Condition_entity_Health_1 fuel a0=some y) {w:World} {v0:Value} :
  Spec Tryz.prog 217 [v0,.func (.func 168) #[] #[]].toArray w [(false,.val (Rep.slice Condition_.rep) v0 a0)] [] (λ v Γr Ωr Ωo=>v=.int .i64 y∧Γr=[]∧Ωr=[]∧Ωo=[]):=by
 refine Spec.of (L:=[(0,v0),(1,.func (.func 168) #[] #[])]) Tryz.func217 rfl ⟨rfl,rfl,trivial⟩ rfl (λ e h=>?_)
 unfold slices_IndexFunc_api_Condition_api_Condition_entity_Health_1 at hF
 refine sr (ga rfl (nil (Run.seq (sr (gm rfl (op (OpS.len h Tryz.underlying213 rfl rfl rfl (V.at .z) ?_)))))))
 refine gm rfl (nil (Run.block (Run.slim [(0,v0),(1,.func (.func 168) #[] #[]),(7,.int .i64 (a0.length:Int)),(8,.int .i64 0)] ⟨rfl,rfl,rfl,rfl,trivial⟩ ?_)))
 refine Run.loopP (σ:=Int) (λ s_ L_ w_=>L_=[(0,v0),(1,.func (.func 168) #[] #[]),(7,.int .i64 (a0.length:Int)),(8,.int .i64 s_)]∧St e w_ [(false,.val (Rep.slice Condition_.rep) v0 a0)] []) hF ⟨rfl,(h.facts (.atm .z .nil)).picks .nil⟩ (λ k1 hk1 s1 _ w1 hI hF=>?_)
 obtain ⟨rfl,h1⟩:=hI
 refine sr (gb rfl (nil (Run.seq ?_)))
 refine Run.ite rfl hF (λ e1 hF=>?_) (λ e1 hF=>?_)
 ·refine Run.skip (Run.seq (Run.block (sr (gm rfl (ga rfl (nil (sr (gm rfl (gm rfl (gm rfl ?_))))))))))
  obtain ⟨x1,e2,hF⟩:=bindP_use hF
  refine op (OpS.iptr h1 Tryz.underlying213 ty215 rfl rfl rfl rfl (V.at .z) e2 (λ u1 h2=>?_))
  refine op (OpS.load h2 ty215 rfl rfl rfl .z (λ u2 h3=>?_))
  obtain ⟨y1,e3,hF⟩:=bindP_use hF
  refine op (OpS.callPF (fl:=[]) (cl:=[]) h3 Tryz.func168 rfl rfl rfl rfl rfl (vs:=[u2]) rfl (entity_Health_1_ok e3) (.cons (f:=false) (V.at .z) .nil) ?_)
  rintro _ w2 _ _ _ ⟨rfl,rfl,rfl,rfl⟩ h4
  have h5:=h4 rfl rfl
  simp only [ca,na] at h5
  refine nil ?_
  refine Run.ite rfl hF (λ e4 hF=>?_) (λ e4 hF=>?_)
  ·refine sr (gm rfl (ga rfl (nil (Run.retP rfl (.tmp rfl .nil) ?_))))
   cases hF
   exact Post.mk' ⟨rfl,rfl,rfl,rfl⟩ (h5.picks .nil) .nil
  refine Run.skip (Run.endBlock (Run.reg (gb rfl (gm rfl (nil (Run.slim [(0,v0),(1,.func (.func 168) #[] #[]),(7,.int .i64 (a0.length:Int)),(8,.int .i64 (IntKind.i64.wrap (s1+1)))] ⟨rfl,rfl,rfl,rfl,trivial⟩ ?_))))))
  exact hk1 ((IntKind.i64.wrap (s1+1))) _ _ ⟨rfl,(h5.facts (.atm (.s (.s .z)) .nil)).picks .nil⟩ hF
 refine Run.exit rfl ?_
 refine sr (ga rfl (nil (Run.retP rfl (.tmp rfl .nil) ?_)))
 cases hF
 exact Post.mk' ⟨rfl,rfl,rfl,rfl⟩ (h1.picks .nil) .nil
theorem slices_ContainsFunc_api_Condition_api_Condition_entity_Health_1_ok {fuel:Nat} {a0:List Condition_} {y:Bool} (hF:slices_ContainsFunc_api_Condition_api_Condition_entity_Health_1 fuel a0=some y) {w:World} {v0:Value} :
  Spec Tryz.prog 167 [v0,.func (.func 168) #[] #[]].toArray w [(false,.val (Rep.slice Condition_.rep) v0 a0)] [] (λ v Γr Ωr Ωo=>v=.bool y∧Γr=[]∧Ωr=[]∧Ωo=[]):=by
 refine Spec.of (L:=[(0,v0),(1,.func (.func 168) #[] #[])]) Tryz.func167 rfl ⟨rfl,rfl,trivial⟩ rfl (λ e h=>?_)
 unfold slices_ContainsFunc_api_Condition_api_Condition_entity_Health_1 at hF
 refine sr (ga rfl (nil (sr (gm rfl (gm rfl ?_)))))
 obtain ⟨y1,e1,hF⟩:=bindP_use hF
 refine op (OpS.callP h Tryz.func217 rfl rfl rfl rfl (vs:=[v0,.func (.func 168) #[] #[]]) rfl (slices_IndexFunc_api_Condition_api_Condition_entity_Health_1_ok e1) (.cons (f:=false) (V.at .z) .nil) ?_)
 rintro _ w1 _ _ _ ⟨rfl,rfl,rfl,rfl⟩ h1
 have h2:=h1 rfl rfl
 simp only [ca,na] at h2
 refine gb rfl (ga rfl ?_)
 obtain ⟨x1,e2,hF⟩:=letP_use hF
 refine RunL.nameb e2 ?_
 refine nil (Run.retP rfl (.tmp rfl .nil) ?_)
 cases hF
 exact Post.mk' ⟨rfl,rfl,rfl,rfl⟩ (h2.picks .nil) .nil
theorem entity_Health_ok {fuel:Nat} {a0:List Association_} {a1:List Entity_} {a2:List Condition_} {a3:Entity_} {y:Int×Int} (hF:entity_Health fuel a0 a1 a2 a3=some y) {w:World} {v0 v1 v2 v3:Value} :
  Spec Tryz.prog 101 [v0,v1,v2,v3].toArray w [(false,.val (Rep.slice Association_.rep) v0 a0),(false,.val (Rep.slice Entity_.rep) v1 a1),(false,.val (Rep.slice Condition_.rep) v2 a2),(false,.val Entity_.rep v3 a3)] [] (λ v Γr Ωr Ωo=>v=.tuple #[.int .i64 y.1,.int .i64 y.2]∧Γr=[]∧Ωr=[]∧Ωo=[]):=by
 refine Spec.of (L:=[(0,v0),(1,v1),(2,v2),(3,v3)]) Tryz.func101 rfl ⟨rfl,rfl,rfl,rfl,trivial⟩ rfl (λ e h=>?_)
 unfold entity_Health at hF
 refine sr (op (OpS.boxF h rfl rfl rfl (V.at (.s (.s (.s .z)))) (λ u1 w1 h1=>?_)))
 refine ga rfl (ga rfl (nil (Run.seq (sr (gm rfl ?_)))))
 obtain ⟨y1,e1,hF⟩:=bindP_use hF
 refine op (OpS.callP h1 Tryz.func96 rfl rfl rfl rfl (vs:=[v0]) rfl (entity_Check_ok e1) (.cons (f:=false) (V.at .z) .nil) ?_)
 rintro _ w2 _ _ _ ⟨rfl,rfl,rfl,rfl⟩ h2
 have h3:=h2 rfl rfl
 simp only [ca,na] at h3
 refine ga rfl (nil (sr (gm rfl (gb rfl (nil ?_)))))
 refine Run.ite rfl hF (λ e2 hF=>?_) (λ e2 hF=>?_)
 ·refine sr (gm rfl (ga rfl (ga rfl (nil (Run.retP rfl (.tmp rfl (.tmp rfl .nil)) ?_)))))
  cases hF
  exact Post.mk' ⟨rfl,rfl,rfl,rfl⟩ (h3.picks .nil) .nil
 refine Run.skip (Run.seq (sr (gm rfl ?_)))
 obtain ⟨y2,e3,hF⟩:=bindP_use hF
 refine op (OpS.callP h3 Tryz.func167 rfl rfl rfl rfl (vs:=[v2,.func (.func 168) #[] #[]]) rfl (slices_ContainsFunc_api_Condition_api_Condition_entity_Health_1_ok e3) (.cons (f:=false) (V.at (.s (.s .z))) .nil) ?_)
 rintro _ w3 _ _ _ ⟨rfl,rfl,rfl,rfl⟩ h4
 have h5:=h4 rfl rfl
 simp only [ca,na] at h5
 refine nil ?_
 refine Run.ite rfl hF (λ e4 hF=>?_) (λ e4 hF=>?_)
 ·refine sr (ga rfl (ga rfl (nil (Run.retP rfl (.tmp rfl (.tmp rfl .nil)) ?_))))
  cases hF
  exact Post.mk' ⟨rfl,rfl,rfl,rfl⟩ (h5.picks .nil) .nil
 refine Run.skip (sr (gm rfl (op (OpS.loadB h5 .z PA.z Get.id ty66 rfl rfl rfl (λ u2 h6=>?_)))))
 obtain ⟨y3,e5,hF⟩:=bindP_use hF
 have h7:=h6.front .nil
 refine op (OpS.callO h7 Tryz.func169 rfl rfl rfl rfl (vs:=[v0,u2]) rfl (entity_within_ok e5) rfl (.cons (f:=false) (V.at (.s .z)) (.cons (f:=false) (V.at .z) .nil)) ?_)
 rintro u3 w4 _ _ _ ⟨_,rfl,rfl,rfl,rfl⟩ h8
 have h9:=h8
 simp only [ca,na] at h9
 refine ga rfl ?_
 have h10:=(h9.pick .z).freeze
 refine nil (sr (ga rfl (nil (Run.seq (sr (gm rfl (op (OpS.len h10 Tryz.underlying213 rfl rfl rfl (V.at (.s (.s (.s (.s .z))))) ?_))))))))
 refine gm rfl (nil (Run.block (Run.slim [(0,v0),(1,v1),(11,u3),(12,.int .i64 0),(25,v2),(26,.int .i64 (a2.length:Int)),(27,.int .i64 0)] ⟨rfl,rfl,rfl,rfl,rfl,rfl,rfl,trivial⟩ ?_)))
 refine Run.loopP (σ:=(Int×Int)) (λ s_ L_ w_=>L_=[(0,v0),(1,v1),(11,u3),(12,.int .i64 s_.1),(25,v2),(26,.int .i64 (a2.length:Int)),(27,.int .i64 s_.2)]∧St e w_ [(false,.val (Rep.slice Association_.rep) v0 a0),(false,.val (Rep.slice Entity_.rep) v1 a1),(false,.val (Rep.slice Entity_.rep) u3 y3),(false,.val (Rep.slice Condition_.rep) v2 a2)] []) hF ⟨rfl,(h10.facts (.atm (.s (.s .z)) (.atm (.s (.s (.s .z))) (.atm .z (.atm (.s (.s (.s (.s .z)))) .nil))))).picks .nil⟩ (λ k1 hk1 s1 _ w5 hI hF=>?_)
 obtain ⟨rfl,h11⟩:=hI
 refine sr (gb rfl (nil (Run.seq ?_)))
 refine Run.ite rfl hF (λ e6 hF=>?_) (λ e6 hF=>?_)
 ·refine Run.skip (Run.seq (Run.block (sr ?_)))
  obtain ⟨x1,e7,hF⟩:=bindP_use hF
  refine op (OpS.iptr h11 Tryz.underlying213 ty215 rfl rfl rfl rfl (V.at (.s (.s (.s .z)))) e7 (λ u4 h12=>?_))
  refine op (OpS.load h12 ty215 rfl rfl rfl .z (λ u5 h13=>?_))
  refine op (OpS.alloc h13 ti215 Condition_.zr rfl rfl (λ u6 w6 h14=>?_))
  have h15:=(h14.pick .z).weak
  refine op (OpS.storeB (f':=false) h15 .z PA.z Put.id ty215 rfl rfl rfl (V.at .z) (.inr rfl) (λ w7 h16=>?_))
  refine nil (sr (gm rfl (op (OpS.fbox (o3:=0) h16 .z PA.z fa215_0 rfl rfl rfl rfl ?_))))
  refine op (OpS.loadB h16 .z PA.a (Get.fld Condition_.f0) ty66 rfl rfl rfl (λ u7 h17=>?_))
  obtain ⟨y4,e8,hF⟩:=bindP_use hF
  refine op (OpS.callP h17 Tryz.func160 rfl rfl rfl rfl (vs:=[u3,u7]) rfl (slices_Contains_api_Entity_api_Entity_ok e8) (.cons (f:=false) (V.at (.s (.s (.s (.s (.s .z)))))) (.cons (f:=false) (V.at .z) .nil)) ?_)
  rintro _ w8 _ _ _ ⟨rfl,rfl,rfl,rfl⟩ h18
  have h19:=h18 rfl rfl
  simp only [ca,na] at h19
  refine gm rfl ?_
  refine RunL.join (σ:=Bool) (λ s_ L_ w_=>L_=[(0,v0),(1,v1),(11,u3),(12,.int .i64 s1.1),(14,u6),(25,v2),(26,.int .i64 (a2.length:Int)),(27,.int .i64 s1.2),(41,.bool s_)]∧St e w_ [(false,.val (Rep.slice Association_.rep) v0 a0),(false,.val (Rep.slice Entity_.rep) v1 a1),(false,.val (Rep.slice Entity_.rep) u3 y3),(false,.val (Rep.slice Condition_.rep) v2 a2)] [(false,.box 215 Condition_.rep u6 x1)]) hF (λ s2 _ w9 hI hF=>?_) (λ j1 hj1 hF=>?_)
  ·obtain ⟨rfl,h20⟩:=hI
   refine Run.ite rfl hF (λ e9 hF=>?_) (λ e9 hF=>?_)
   ·refine Run.reg (gm rfl (op (OpS.fbox (o3:=2) h20 .z PA.z fa215_1 rfl rfl rfl rfl ?_)))
    refine op (OpS.loadBi h20 .z PA.a (Get.fld Condition_.f1) ty3 rfl rfl rfl ?_)
    refine op (OpS.maxi rfl rfl rfl rfl ?_)
    refine ga rfl (nil (Run.endBlock (Run.reg (gb rfl (gm rfl (nil (Run.slim [(0,v0),(1,v1),(11,u3),(12,.int .i64 (max s1.1 x1.Severity)),(25,v2),(26,.int .i64 (a2.length:Int)),(27,.int .i64 (IntKind.i64.wrap (s1.2+1)))] ⟨rfl,rfl,rfl,rfl,rfl,rfl,rfl,trivial⟩ ?_)))))))
    exact hk1 ((max s1.1 x1.Severity),(IntKind.i64.wrap (s1.2+1))) _ _ ⟨rfl,(h20.facts (.atm .z (.atm (.s .z) (.atm (.s (.s .z)) (.atm (.s (.s (.s .z))) .nil))))).picks .nil⟩ hF
   refine Run.skip (Run.endBlock (Run.reg (gb rfl (gm rfl (nil (Run.slim [(0,v0),(1,v1),(11,u3),(12,.int .i64 s1.1),(25,v2),(26,.int .i64 (a2.length:Int)),(27,.int .i64 (IntKind.i64.wrap (s1.2+1)))] ⟨rfl,rfl,rfl,rfl,rfl,rfl,rfl,trivial⟩ ?_))))))
   exact hk1 (s1.1,(IntKind.i64.wrap (s1.2+1))) _ _ ⟨rfl,(h20.facts (.atm .z (.atm (.s .z) (.atm (.s (.s .z)) (.atm (.s (.s (.s .z))) .nil))))).picks .nil⟩ hF
  refine RunL.caseb hF (λ e10 hF=>?_) (λ e10 hF=>?_)
  ·refine gm rfl (gm rfl (op (OpS.fbox (o3:=0) h19 .z PA.z fa215_0 rfl rfl rfl rfl ?_)))
   refine op (OpS.loadB h19 .z PA.a (Get.fld Condition_.f0) ty66 rfl rfl rfl (λ u8 h21=>?_))
   obtain ⟨y5,e11,hF⟩:=bindP_use hF
   refine op (OpS.callP h21 Tryz.func149 rfl rfl rfl rfl (vs:=[v0,v1,u8]) rfl (entity_present_ok e11) (.cons (f:=false) (V.at (.s (.s (.s (.s .z))))) (.cons (f:=false) (V.at (.s (.s (.s (.s (.s .z)))))) (.cons (f:=false) (V.at .z) .nil))) ?_)
   rintro _ w10 _ _ _ ⟨rfl,rfl,rfl,rfl⟩ h22
   have h23:=h22 rfl rfl
   simp only [ca,na] at h23
   refine gk rfl (nil (Run.slim [(0,v0),(1,v1),(11,u3),(12,.int .i64 s1.1),(14,u6),(25,v2),(26,.int .i64 (a2.length:Int)),(27,.int .i64 s1.2),(41,.bool y5)] ⟨rfl,rfl,rfl,rfl,rfl,rfl,rfl,rfl,rfl,trivial⟩ ?_))
   exact hj1 (y5) _ _ ⟨rfl,(h23.facts (.atm (.s (.s (.s (.s .z)))) (.atm (.s (.s (.s (.s (.s .z))))) (.atm (.s (.s (.s (.s (.s (.s .z)))))) (.atm (.s (.s (.s (.s (.s (.s (.s .z))))))) .nil))))).picks (.cons .z .nil)⟩ hF
  refine gp rfl (gp rfl (gp rfl (gp rfl (gp rfl (gk rfl (nil (Run.slim [(0,v0),(1,v1),(11,u3),(12,.int .i64 s1.1),(14,u6),(25,v2),(26,.int .i64 (a2.length:Int)),(27,.int .i64 s1.2),(41,.bool false)] ⟨rfl,rfl,rfl,rfl,rfl,rfl,rfl,rfl,rfl,trivial⟩ ?_)))))))
  exact hj1 (false) _ _ ⟨rfl,(h19.facts (.atm (.s (.s (.s .z))) (.atm (.s (.s (.s (.s .z)))) (.atm (.s (.s (.s (.s (.s .z))))) (.atm (.s (.s (.s (.s (.s (.s .z)))))) .nil))))).picks (.cons .z .nil)⟩ hF
 refine Run.exit rfl ?_
 refine sr (gm rfl (ga rfl (ga rfl (nil (Run.retP rfl (.tmp rfl (.tmp rfl .nil)) ?_)))))
 cases hF
 exact Post.mk' ⟨rfl,rfl,rfl,rfl⟩ (h11.picks .nil) .nil
set_option maxRecDepth 20000 in
theorem monitor_Monitor_Health_ok {fuel:Nat} {a0:monitor_Monitor} {a1:List Entity_} {a2:Entity_} {y:Int×Int} (hF:monitor_Monitor_Health fuel a0 a1 a2=some y) {w:World} {v0 v0_0 v0_1 v1 v2:Value} :
  Spec Tryz.prog 35 [v0,v1,v2].toArray w [(false,.val (Rep.slice Entity_.rep) v1 a1),(false,.val Entity_.rep v2 a2)] [(false,.box 184 (monitor_Monitor.repW v0_0 v0_1) v0 a0),(false,.slice 188 Filter_.rep v0_0 a0.filters),(false,.slice 49 (Rep.int .u16) v0_1 a0.states)] (λ v Γr Ωr Ωo=>v=.tuple #[.int .i64 y.1,.int .i64 y.2]∧Γr=[]∧Ωr=[]∧Ωo=[(false,.box 184 (monitor_Monitor.repW v0_0 v0_1) v0 a0),(false,(.slice 188 Filter_.rep v0_0 a0.filters)),(false,(.slice 49 (Rep.int .u16) v0_1 a0.states))]):=by
 refine Spec.of (L:=[(0,v0),(1,v1),(2,v2)]) Tryz.func35 rfl ⟨rfl,rfl,rfl,trivial⟩ rfl (λ e h=>?_)
 unfold monitor_Monitor_Health at hF
 refine sr (op (OpS.boxF h rfl rfl rfl (V.at (.s .z)) (λ u1 w1 h1=>?_)))
 refine ga rfl (ga rfl (nil (sr (ga rfl (nil (Run.seq (sr (gm rfl (op (OpS.nchk h1 (.s .z) rfl rfl rfl ?_))))))))))
 refine op (OpS.fbox (o3:=0) h1 (.s .z) PA.z fa184_0 rfl rfl rfl rfl ?_)
 refine op (OpS.loadB (fr:=(Rep.slice Sensor_.rep)) h1 (.s .z) PA.a (GetS.ok (GetS.iso _ (GetS.here GetS.id))) (Ty.like ty27 (by rfl) (by rfl)) rfl rfl rfl (λ u2 h2=>?_))
 refine op (OpS.len h2 Tryz.underlying27 rfl rfl rfl (V.at .z) ?_)
 refine gm rfl (nil (Run.block ?_))
 have h3:=St.nil 215 Condition_.rep h2
 refine Run.slim [(0,v0),(1,v1),(5,u1),(8,(.slice none 0 0)),(16,u2),(17,.int .i64 (a0.sensors.length:Int)),(18,.int .i64 0)] ⟨rfl,rfl,rfl,rfl,rfl,rfl,rfl,trivial⟩ ?_
 refine Run.loopP (σ:=(Int×(List Condition_))) (λ s_ L_ w_=>∃ u0_:Value,L_=[(0,v0),(1,v1),(5,u1),(8,u0_),(16,u2),(17,.int .i64 (a0.sensors.length:Int)),(18,.int .i64 s_.1)]∧St e w_ [(false,.val (Rep.slice Entity_.rep) v1 a1),(false,.val (Rep.slice Sensor_.rep) u2 a0.sensors)] [(false,.box 184 (monitor_Monitor.repW v0_0 v0_1) v0 a0),(false,.box 66 Entity_.rep u1 a2),(true,.slice 215 Condition_.rep u0_ s_.2),(false,.slice 188 Filter_.rep v0_0 a0.filters),(false,.slice 49 (Rep.int .u16) v0_1 a0.states)]) hF ⟨(.slice none 0 0),rfl,(h3.facts (.atm (.s .z) (.atm .z .nil))).picks (.cons (.s (.s .z)) (.cons (.s .z) (.cons .z (.cons .z (.cons .z .nil)))))⟩ (λ k1 hk1 s1 _ w2 hI hF=>?_)
 obtain ⟨u3,rfl,h4⟩:=hI
 refine sr (gb rfl (nil (Run.seq ?_)))
 refine Run.ite rfl hF (λ e1 hF=>?_) (λ e1 hF=>?_)
 ·refine Run.skip (Run.seq (Run.block (sr (gm rfl ?_))))
  obtain ⟨x1,e2,hF⟩:=bindP_use hF
  refine op (OpS.iptr h4 Tryz.underlying27 ty74 rfl rfl rfl rfl (V.at (.s .z)) e2 (λ u4 h5=>?_))
  refine op (OpS.load h5 ty74 rfl rfl rfl .z (λ u5 h6=>?_))
  refine op (OpS.alloc h6 ti74 Sensor_.zr rfl rfl (λ u6 w3 h7=>?_))
  refine ga rfl ?_
  have h8:=(h7.pick .z).weak
  refine op (OpS.storeB (f':=false) h8 .z PA.z Put.id ty74 rfl rfl rfl (V.at .z) (.inr rfl) (λ w4 h9=>?_))
  refine nil (sr (gm rfl (op (OpS.fbox (o3:=0) h9 .z PA.z fa74_0 rfl rfl rfl rfl ?_))))
  refine op (OpS.loadBi h9 .z PA.a (Get.fld Sensor_.f0) ty5 rfl rfl rfl ?_)
  obtain ⟨y1,e3,hF⟩:=bindP_use hF
  have h10:=h9.front (.cons (.s .z) (.cons (.s (.s (.s .z))) (.cons (.s (.s (.s .z))) .nil)))
  refine op (OpS.callO h10 Tryz.func33 rfl rfl rfl rfl (vs:=[v0,.int .u8 x1.Number]) rfl (monitor_Monitor_Reading_ok e3) rfl .nil ?_)
  rintro _ w5 _ _ _ ⟨rfl,rfl,rfl,rfl⟩ h11
  have h12:=h11
  simp only [ca,na] at h12
  refine gm rfl (op (OpS.ext rfl rfl rfl rfl ?_))
  refine op (OpS.ext rfl rfl rfl rfl ?_)
  refine ga rfl (ga rfl (nil (sr (gm rfl (nil ?_)))))
  refine Run.ite rfl hF (λ e4 hF=>?_) (λ e4 hF=>?_)
  ·have h13:=h12.picks (.cons .z (.cons (.s .z) (.cons (.s .z) (.cons .z (.cons .z (.cons .z .nil))))))
   obtain ⟨x2,e5,hF⟩:=bindP_use hF
   obtain ⟨y2,e6,hF⟩:=bindP_use hF
   refine Run.drawV (Ωs:=[(false,.slice 188 Filter_.rep v0_0 a0.filters),(false,.box 66 Entity_.rep u1 a2),(true,.slice 215 Condition_.rep u3 s1.2)]) [.k 31 u3,.kr 32 (padd u6 4) [2],.fr 33 (λ u_=>[(false,.val Entity_.rep u_ x1.Entity)]) [2],.k 34 v0,.kr 35 v0 [0],.kr 36 (padd v0 3) [0],.kr 37 v0_1 [0],.k 38 (.int .i64 s1.1),.kr 39 (padd (sp v0_1) ((s1.1:Int).toNat*(Rep.int .u16).n)) [1],.kr 40 (.int .u16 x2) [1],.k 41 (.int .u8 (IntKind.u8.wrap x2)),.k 42 (.int .i64 y2),.f 43 (λ u_=>[(false,.val Condition_.rep u_ (⟨x1.Entity,y2⟩:Condition_))]),.f 44 (λ u_=>[(false,.val (Rep.slice Condition_.rep) u_ ([(⟨x1.Entity,y2⟩:Condition_)]))])] [[],[],[1],[],[3],[4],[5],[],[6,7],[8],[9],[10],[2,11],[12]] [[(false,.box 184 (monitor_Monitor.repW v0_0 v0_1) v0 a0)],[(false,.slice 49 (Rep.int .u16) v0_1 a0.states)],[(false,.box 74 Sensor_.rep u6 x1)]] [0,1,2,3,4,5,6,7,8,9,10,11,12,13,14,15,16] Try_mixed rfl rfl rfl h13 (.cons ?_ (.cons ?_ (.cons ?_ (.cons ?_ (.cons ?_ (.cons ?_ (.cons ?_ (.cons ?_ (.cons ?_ (.cons ?_ (.cons ?_ (.cons ?_ (.cons ?_ (.cons ?_ .nil)))))))))))))) (λ q1 w hq1 h=>?_)
   ·intro q1 w Γx Ωx h
    refine OpS.mv rfl rfl rfl ?_
    exact du h
   ·intro q1 w Γx Ωx h
    refine OpS.fbox (o3:=4) h .z PA.z fa74_4 rfl rfl rfl rfl ?_
    exact du h
   ·intro q1 w Γx Ωx h
    refine OpS.loadB h .z PA.a (Get.fld Sensor_.f4) ty66 rfl rfl rfl (λ u h19=>?_)
    exact ⟨u,rfl,trivial,h19⟩
   ·intro q1 w Γx Ωx h
    refine OpS.mv rfl rfl rfl ?_
    exact du h
   ·intro q1 w Γx Ωx h
    refine OpS.nchk h .z rfl rfl rfl ?_
    exact du h
   ·intro q1 w Γx Ωx h
    refine OpS.fbox (o3:=3) h .z PA.z fa184_3 rfl rfl rfl rfl ?_
    exact du h
   ·intro q1 w Γx Ωx h
    refine OpS.loadR h .z PA.a (GetS.ok (GetS.iso _ (GetS.there (GetS.there (GetS.there (GetS.here GetS.id)))))) ty60 rfl rfl rfl rfl rfl ?_
    exact du h
   ·intro q1 w Γx Ωx h
    refine OpS.mv rfl rfl rfl ?_
    exact du h
   ·intro q1 w Γx Ωx h
    refine OpS.iown h .z Tryz.underlying60 ty49 rfl rfl rfl rfl e5 ?_
    exact du h
   ·intro q1 w Γx Ωx h
    refine OpS.loadOi h .z (idx_ne e5) PA.a (Get.arr e5) ty49 rfl rfl rfl ?_
    exact du h
   ·intro q1 w Γx Ωx h
    refine OpS.conv Tryz.underlying49 Tryz.underlying5 rfl rfl rfl ?_
    exact du h
   ·intro q1 w Γx Ωx h
    refine OpS.callP h Tryz.func34 rfl rfl rfl rfl (vs:=[.int .u8 (IntKind.u8.wrap x2)]) rfl (threshold_Severity_ok e6) .nil ?_
    rintro _ w8 _ _ _ ⟨rfl,rfl,rfl,rfl⟩ h20
    have h21:=h20 rfl rfl
    simp only [ca,na] at h21
    exact ⟨undef,rfl,trivial,h21⟩
   ·intro q1 w Γx Ωx h
    refine OpS.build (f:=false) (x':=(⟨x1.Entity,y2⟩:Condition_)) h pl215 ti215 Condition_.zr rfl rfl rfl (.cons rfl Condition_.f0 rfl (V.at .z) (.cons rfl Condition_.f1 rfl V.int .nil)) (λ u h22=>?_)
    exact ⟨u,rfl,trivial,h22⟩
   ·intro q1 w Γx Ωx h
    refine OpS.lit (r:=Condition_.rep) (f:=false) h Tryz.underlying213 ti215 rfl rfl rfl rfl rfl (.cons rfl (V.at .z) .nil) rfl rfl (λ u w9 h23=>?_)
    exact ⟨u,rfl,trivial,h23⟩
   have h24:=h
   obtain ⟨x3,e7,hF⟩:=bindP_use hF
   refine op (OpS.app (f':=false) h24 (.s (.s (.s (.s (.s .z))))) Tryz.underlying213 ti215 rfl rfl rfl rfl rfl rfl rfl (V.at (.s (.s .z))) (.inr Condition_.pure) e7 (λ u7 w10 h25=>?_))
   refine ga rfl (nil (Run.slim [(8,u7),(0,v0),(1,v1),(5,u1),(16,u2),(17,.int .i64 (a0.sensors.length:Int)),(18,.int .i64 s1.1)] ⟨rfl,rfl,rfl,rfl,rfl,rfl,rfl,trivial⟩ ?_))
   refine Run.endBlock (Run.reg (gb rfl (gm rfl (nil (Run.slim [(0,v0),(1,v1),(5,u1),(8,u7),(16,u2),(17,.int .i64 (a0.sensors.length:Int)),(18,.int .i64 (IntKind.i64.wrap (s1.1+1)))] ⟨rfl,rfl,rfl,rfl,rfl,rfl,rfl,trivial⟩ ?_)))))
   exact hk1 ((IntKind.i64.wrap (s1.1+1)),x3) _ _ ⟨u7,rfl,(h25.facts (.atm (.s (.s (.s (.s (.s .z))))) (.atm (.s (.s (.s (.s (.s (.s .z)))))) .nil))).picks (.cons (.s .z) (.cons (.s (.s (.s (.s .z)))) (.cons .z (.cons (.s (.s .z)) (.cons .z .nil)))))⟩ hF
  refine Run.skip (Run.endBlock (Run.reg (gb rfl (gm rfl (nil (Run.slim [(0,v0),(1,v1),(5,u1),(8,u3),(16,u2),(17,.int .i64 (a0.sensors.length:Int)),(18,.int .i64 (IntKind.i64.wrap (s1.1+1)))] ⟨rfl,rfl,rfl,rfl,rfl,rfl,rfl,trivial⟩ ?_))))))
  exact hk1 ((IntKind.i64.wrap (s1.1+1)),s1.2) _ _ ⟨u3,rfl,(h12.facts (.atm (.s (.s .z)) (.atm (.s (.s (.s .z))) .nil))).picks (.cons .z (.cons (.s (.s (.s .z))) (.cons (.s (.s (.s .z))) (.cons .z (.cons .z .nil)))))⟩ hF
 refine Run.exit rfl ?_
 refine Run.seq ?_
 have h26:=(h4.pick (.s (.s .z))).freeze
 obtain ⟨y3,e8,hF⟩:=bindP_use hF
 refine Run.drawV (Ωs:=[(false,.slice 188 Filter_.rep v0_0 a0.filters),(false,.slice 49 (Rep.int .u16) v0_1 a0.states)]) [.k 47 v0,.kr 48 v0 [0],.kr 49 (padd v0 1) [0],.fr 50 (λ u_=>[(false,.val (Rep.slice Association_.rep) u_ a0.l)]) [0],.k 51 v1,.k 52 u3,.fr 53 (λ u_=>[(false,.val Entity_.rep u_ a2)]) [1],.k 54 (.tuple #[.int .i64 y3.1,.int .i64 y3.2]),.k 55 (.int .i64 y3.1),.k 56 (.int .i64 y3.2)] [[],[0],[1],[2],[],[],[],[3,4,5,6],[7],[7]] [[(false,.box 184 (monitor_Monitor.repW v0_0 v0_1) v0 a0)],[(false,.box 66 Entity_.rep u1 a2)]] [0,1,2,3,4,5,6,7,8,9,10,11] Try_mixed rfl rfl rfl h26 (.cons ?_ (.cons ?_ (.cons ?_ (.cons ?_ (.cons ?_ (.cons ?_ (.cons ?_ (.cons ?_ (.cons ?_ (.cons ?_ .nil)))))))))) (λ q2 w hq2 h=>?_)
 ·intro q2 w Γx Ωx h
  refine OpS.mv rfl rfl rfl ?_
  exact du h
 ·intro q2 w Γx Ωx h
  refine OpS.nchk h .z rfl rfl rfl ?_
  exact du h
 ·intro q2 w Γx Ωx h
  refine OpS.fbox (o3:=1) h .z PA.z fa184_1 rfl rfl rfl rfl ?_
  exact du h
 ·intro q2 w Γx Ωx h
  refine OpS.loadB (fr:=(Rep.slice Association_.rep)) h .z PA.a (GetS.ok (GetS.iso _ (GetS.there (GetS.here GetS.id)))) (Ty.like ty76 (by rfl) (by rfl)) rfl rfl rfl (λ u h31=>?_)
  exact ⟨u,rfl,trivial,h31⟩
 ·intro q2 w Γx Ωx h
  refine OpS.mv rfl rfl rfl ?_
  exact du h
 ·intro q2 w Γx Ωx h
  refine OpS.mv rfl rfl rfl ?_
  exact du h
 ·intro q2 w Γx Ωx h
  refine OpS.loadB h .z PA.z Get.id ty66 rfl rfl rfl (λ u h32=>?_)
  exact ⟨u,rfl,trivial,h32⟩
 ·intro q2 w Γx Ωx h
  refine OpS.callP h Tryz.func101 rfl rfl rfl rfl (vs:=[(q2 3),v1,u3,(q2 6)]) rfl (entity_Health_ok e8) (.cons (f:=false) (V.at .z) (.cons (f:=false) (V.at (.s (.s (.s .z)))) (.cons (f:=true) (V.at (.s (.s .z))) (.cons (f:=false) (V.at (.s .z)) .nil)))) ?_
  rintro _ w12 _ _ _ ⟨rfl,rfl,rfl,rfl⟩ h33
  have h34:=h33 rfl rfl
  simp only [ca,na] at h34
  exact ⟨undef,rfl,trivial,h34⟩
 ·intro q2 w Γx Ωx h
  refine OpS.ext rfl rfl rfl rfl ?_
  exact du h
 ·intro q2 w Γx Ωx h
  refine OpS.ext rfl rfl rfl rfl ?_
  exact du h
 have h35:=h
 refine ga rfl (ga rfl (nil (Run.retP rfl (.tmp rfl (.tmp rfl .nil)) ?_)))
 cases hF
 exact Post.mk' ⟨rfl,rfl,rfl,rfl⟩ (h35.picks (.cons .z (.cons (.s .z) (.cons (.s .z) .nil)))) .nil
set_option maxHeartbeats 8000000 in set_option maxRecDepth 20000 in
theorem top_TopHealthy_ok {fuel:Nat} {a0:List Int} {a1:List (List Int)} {a2:Entity_} {y:Bool} (hF:top_TopHealthy fuel a0 a1 a2=some y) {w:World} {v0 v1 v2:Value} :
  Spec Tryz.prog 4 [v0,v1,v2].toArray w [(false,.val (Rep.slice (Rep.int .i64)) v0 a0),(false,.val (Rep.slice (Rep.slice (Rep.int .i64))) v1 a1),(false,.val Entity_.rep v2 a2),Gqs] [] (λ v Γr Ωr Ωo=>v=.bool y∧Γr=[]∧Ωr=[]∧Ωo=[]):=by
 refine Spec.of (L:=[(0,v0),(1,v1),(2,v2)]) Tryz.func4 rfl ⟨rfl,rfl,rfl,trivial⟩ rfl (λ e h=>?_)
 unfold top_TopHealthy at hF
 refine sr (op (OpS.boxF h rfl rfl rfl (V.at (.s (.s .z))) (λ u1 w1 h1=>?_)))
 refine ga rfl (nil (Run.seq (sr ?_)))
 obtain ⟨y1,e1,hF⟩:=bindP_use hF
 refine op (OpS.callP h1 Tryz.func9 rfl rfl rfl rfl (vs:=[]) rfl (top_first_ok e1) (.ptr (.s (.s (.s .z))) .nil) ?_)
 rintro _ w2 _ _ _ ⟨rfl,rfl,rfl,rfl⟩ h2
 have h3:=h2 rfl rfl
 simp only [ca,na] at h3
 refine op (OpS.not rfl rfl rfl ?_)
 refine nil ?_
 refine Run.ite rfl hF (λ e2 hF=>?_) (λ e2 hF=>?_)
 ·refine sr (ga rfl (nil (Run.retP rfl (.tmp rfl .nil) ?_)))
  cases hF
  exact Post.mk' ⟨rfl,rfl,rfl,rfl⟩ (h3.picks .nil) .nil
 refine Run.skip (Run.seq (sr (gm rfl ?_)))
 obtain ⟨y2,e3,hF⟩:=bindP_use hF
 refine op (OpS.callP h3 Tryz.func10 rfl rfl rfl rfl (vs:=[v0]) rfl (made_Light_ok e3) (.cons (f:=false) (V.at .z) .nil) ?_)
 rintro _ w3 _ _ _ ⟨rfl,rfl,rfl,rfl⟩ h4
 have h5:=h4 rfl rfl
 simp only [ca,na] at h5
 refine op (OpS.not rfl rfl rfl ?_)
 refine gm rfl ?_
 refine RunL.join (σ:=Bool) (λ s_ L_ w_=>L_=[(0,v0),(1,v1),(5,u1),(36,.bool s_)]∧St e w_ [(false,.val (Rep.slice (Rep.int .i64)) v0 a0),(false,.val (Rep.slice (Rep.slice (Rep.int .i64))) v1 a1),Gqs] [(false,.box 66 Entity_.rep u1 a2)]) hF (λ s1 _ w4 hI hF=>?_) (λ j1 hj1 hF=>?_)
 ·obtain ⟨rfl,h6⟩:=hI
  refine Run.ite rfl hF (λ e4 hF=>?_) (λ e4 hF=>?_)
  ·refine sr (ga rfl (nil (Run.retP rfl (.tmp rfl .nil) ?_)))
   cases hF
   exact Post.mk' ⟨rfl,rfl,rfl,rfl⟩ (h6.picks .nil) .nil
  refine Run.skip (sr (gm rfl ?_))
  obtain ⟨y3,e5,hF⟩:=bindP_use hF
  have h7:=h6.front .nil
  refine op (OpS.callO h7 Tryz.func12 rfl rfl rfl rfl (vs:=[v0]) rfl (made_Roll_ok e5) rfl (.cons (f:=false) (V.at .z) .nil) ?_)
  rintro u2 w5 _ _ _ ⟨_,rfl,rfl,rfl,rfl⟩ h8
  have h9:=h8
  simp only [ca,na] at h9
  refine ga rfl (nil (sr (gm rfl ?_)))
  obtain ⟨y4,e6,hF⟩:=bindP_use hF
  have h10:=h9.front (.cons .z .nil)
  refine op (OpS.callO h10 Tryz.func11 rfl rfl rfl rfl (vs:=[u2,.int .i64 6]) rfl (top_watched_ok e6) rfl .nil ?_)
  rintro u3 w6 _ _ _ ⟨_,rfl,rfl,rfl,rfl⟩ h11
  have h12:=h11
  simp only [ca,na] at h12
  refine gm rfl ?_
  obtain ⟨y5,e7,hF⟩:=bindP_use hF
  have h13:=h12.front (.cons (.s .z) .nil)
  refine op (OpS.callO h13 Tryz.func29 rfl rfl rfl rfl (vs:=[u2,.int .i64 5]) rfl (made_Dice_Associations_ok e7) rfl .nil ?_)
  rintro u4 w7 _ _ _ ⟨_,rfl,rfl,rfl,rfl⟩ h14
  have h15:=h14
  simp only [ca,na] at h15
  refine ga rfl ?_
  have h16:=(h15.pick (.s .z)).freeze
  refine ga rfl (nil (sr (gm rfl (gm rfl ?_))))
  obtain ⟨y6,e8,hF⟩:=bindP_use hF
  have h17:=h16.front .nil
  refine op (OpS.callO h17 Tryz.func30 rfl rfl rfl rfl (vs:=[u3,u4]) rfl (monitor_New_ok e8) rfl (.cons (f:=true) (V.at .z) (.cons (f:=true) (V.at (.s .z)) .nil)) ?_)
  rintro _ w8 _ _ _ ⟨u5,rfl,rfl,rfl,rfl⟩ h18
  have h19:=h18
  simp only [ca,na] at h19
  refine gm rfl (op (OpS.ext rfl rfl rfl rfl ?_))
  refine op (OpS.ext rfl rfl rfl rfl ?_)
  refine ga rfl (ga rfl (nil (Run.seq (sr (gm rfl (op (OpS.onilE2 h19 .z (λ _=>PtrOf.ex λ _=>PtrOf.ex λ _=>PtrOf.sep PtrOf.box) Tryz.underlying38 rfl rfl rfl rfl ?_)))))))
  refine gm rfl ?_
  refine RunL.join (σ:=Bool) (λ s_ L_ w_=>L_=[(1,v1),(5,u1),(7,u2),(8,u3),(9,u4),(10,u5),(54,.bool s_)]∧St e w_ [(false,.val (Rep.slice (Rep.slice (Rep.int .i64))) v1 a1),(true,.val (Rep.slice Sensor_.rep) u3 y4.1),(true,.val (Rep.slice Association_.rep) u4 y5.1),Gqs] [(false,.box 66 Entity_.rep u1 a2),(false,.box 163 made_Dice.rep u2 y5.2),(false,.opt (monitor_Monitor.mem u5) u5 y6.1)]) hF (λ s2 _ w9 hI hF=>?_) (λ j2 hj2 hF=>?_)
  ·obtain ⟨rfl,h20⟩:=hI
   refine Run.ite rfl hF (λ e9 hF=>?_) (λ e9 hF=>?_)
   ·refine sr (ga rfl (nil (Run.retP rfl (.tmp rfl .nil) ?_)))
    cases hF
    exact Post.mk' ⟨rfl,rfl,rfl,rfl⟩ (h20.picks .nil) .nil
   refine Run.skip (sr (ga rfl (nil (Run.seq (sr (ga rfl (nil (Run.block ?_))))))))
   have h21:=St.nil 55 Event_.rep h20
   refine Run.slim [(1,v1),(5,u1),(7,u2),(8,u3),(9,u4),(10,u5),(12,(.slice none 0 0)),(13,.int .i64 0)] ⟨rfl,rfl,rfl,rfl,rfl,rfl,rfl,rfl,trivial⟩ ?_
   refine Run.loopP (σ:=(Int×(List Event_)×(Option monitor_Monitor))) (λ s_ L_ w_=>∃ u0_ u1_:Value,L_=[(1,v1),(5,u1),(7,u2),(8,u3),(9,u4),(10,u1_),(12,u0_),(13,.int .i64 s_.1)]∧St e w_ [(false,.val (Rep.slice (Rep.slice (Rep.int .i64))) v1 a1),(true,.val (Rep.slice Sensor_.rep) u3 y4.1),(true,.val (Rep.slice Association_.rep) u4 y5.1),Gqs] [(false,.box 66 Entity_.rep u1 a2),(false,.box 163 made_Dice.rep u2 y5.2),(true,.slice 55 Event_.rep u0_ s_.2.1),(false,.opt (monitor_Monitor.mem u1_) u1_ s_.2.2)]) hF ⟨(.slice none 0 0),u5,rfl,(h21.facts (.atm .z (.atm (.s .z) (.atm (.s (.s .z)) (.atm (.s (.s (.s .z))) .nil))))).picks (.cons (.s .z) (.cons (.s .z) (.cons .z (.cons .z .nil))))⟩ (λ k1 hk1 s3 _ w10 hI hF=>?_)
   obtain ⟨u6,u7,rfl,h22⟩:=hI
   refine Run.seq (sr (gm rfl (gm rfl (op (OpS.len h22 Tryz.underlying23 rfl rfl rfl (V.at .z) ?_)))))
   refine gb rfl (nil ?_)
   refine Run.ite rfl hF (λ e10 hF=>?_) (λ e10 hF=>?_)
   ·refine Run.skip (Run.seq (Run.block (Run.seq (sr (gm rfl (gm rfl ?_))))))
    obtain ⟨x1,e11,hF⟩:=bindP_use hF
    refine op (OpS.iptr h22 Tryz.underlying23 ty22 rfl rfl rfl rfl (V.at .z) e11 (λ u8 h23=>?_))
    refine op (OpS.load h23 ty22 rfl rfl rfl .z (λ u9 h24=>?_))
    refine op (OpS.len h24 Tryz.underlying22 rfl rfl rfl (V.at .z) ?_)
    refine gb rfl (nil ?_)
    refine Run.ite rfl hF (λ e12 hF=>?_) (λ e12 hF=>?_)
    ·refine sr (ga rfl (nil (Run.retP rfl (.tmp rfl .nil) ?_)))
     cases hF
     exact Post.mk' ⟨rfl,rfl,rfl,rfl⟩ (h24.picks .nil) .nil
    refine Run.skip (sr (gm rfl (gm rfl (gm rfl ?_))))
    obtain ⟨x2,e13,hF⟩:=bindP_use hF
    refine op (OpS.iptr h24 Tryz.underlying23 ty22 rfl rfl rfl rfl (V.at (.s (.s .z))) e13 (λ u10 h25=>?_))
    refine op (OpS.load h25 ty22 rfl rfl rfl .z (λ u11 h26=>?_))
    obtain ⟨y7,e14,hF⟩:=bindP_use hF
    have h27:=h26.front .nil
    refine op (OpS.callO h27 Tryz.func12 rfl rfl rfl rfl (vs:=[u11]) rfl (made_Roll_ok e14) rfl (.cons (f:=false) (V.at .z) .nil) ?_)
    rintro u12 w11 _ _ _ ⟨_,rfl,rfl,rfl,rfl⟩ h28
    have h29:=h28
    simp only [ca,na] at h29
    refine gm rfl ?_
    obtain ⟨y8,e15,hF⟩:=bindP_use hF
    have h30:=h29.front (.cons .z .nil)
    refine op (OpS.callO h30 Tryz.func16 rfl rfl rfl rfl (vs:=[u12,u3]) rfl (made_Dice_Samples_ok e15) rfl (.cons (f:=true) (V.at (.s (.s (.s (.s (.s .z)))))) .nil) ?_)
    rintro u13 w12 _ _ _ ⟨_,rfl,rfl,rfl,rfl⟩ h31
    have h32:=h31
    simp only [ca,na] at h32
    obtain ⟨x3,e16,hF⟩:=bindP_use hF
    have h33:=St.unopt (h32.pick (.s (.s (.s (.s (.s .z)))))) e16
    obtain ⟨u14,h34⟩:=h33.unex
    obtain ⟨u15,h35⟩:=h34.unex
    have h36:=h35.unsep
    have h37:=(h36.pick (.s .z)).unsep
    have h38:=(h37.pick (.s (.s (.s .z)))).freeze
    obtain ⟨y9,e17,hF⟩:=bindP_use hF
    have h39:=h38.front (.cons (.s (.s .z)) (.cons .z (.cons .z .nil)))
    refine op (OpS.callO h39 Tryz.func20 rfl rfl rfl rfl (vs:=[u7,u13,.slice none 0 0,.bool true]) rfl (monitor_Monitor_Scan_ok e17) rfl (.cons (f:=true) (V.at .z) (.cons (f:=true) V.nil (.ptr (.s (.s (.s (.s (.s (.s (.s (.s .z)))))))) .nil))) ?_)
    rintro _ w13 _ _ _ ⟨u16,u17,u18,rfl,rfl,rfl,rfl⟩ h40
    have h41:=h40
    simp only [ca,na] at h41
    refine gm rfl (op (OpS.ext rfl rfl rfl rfl ?_))
    refine op (OpS.ext rfl rfl rfl rfl ?_)
    refine ga rfl ?_
    have h42:=(h41.pick .z).freeze
    refine ga rfl (nil (sr (gm rfl (gb rfl (nil ?_)))))
    refine Run.ite rfl hF (λ e18 hF=>?_) (λ e18 hF=>?_)
    ·refine Run.reg (gm rfl (gm rfl ?_))
     obtain ⟨x4,e19,hF⟩:=bindP_use hF
     refine op (OpS.app (f':=true) h42 (.s (.s (.s (.s (.s (.s .z)))))) Tryz.underlying40 ti55 rfl rfl rfl rfl rfl rfl rfl (V.at .z) (.inr Event_.pure) e19 (λ u19 w14 h43=>?_))
     refine ga rfl (nil (Run.endBlock (Run.reg (gm rfl (gb rfl (ga rfl ?_))))))
     obtain ⟨x5,e20,hF⟩:=letP_use hF
     refine RunL.name e20 ?_
     refine nil (Run.slim [(13,.int .i64 x5),(12,u19),(1,v1),(5,u1),(7,u2),(8,u3),(9,u4),(10,u7)] ⟨rfl,rfl,rfl,rfl,rfl,rfl,rfl,rfl,trivial⟩ ?_)
     have h44:=h43.front (.cons (.s (.s .z)) (.cons (.s (.s .z)) (.cons (.s .z) .nil)))
     have h45:=St.sep h44
     have h46:=St.sep (h45.pick (.s .z))
     have h47:=St.ex (H:=λ w1_=>.sep (.box 184 (monitor_Monitor.repW u17 w1_) u7 y9.2.2) (.sep (.slice 188 Filter_.rep u17 y9.2.2.filters) (.slice 49 (Rep.int .u16) w1_ y9.2.2.states))) u18 h46
     have h48:=St.ex (H:=λ w0_=>.ex λ w1_=>.sep (.box 184 (monitor_Monitor.repW w0_ w1_) u7 y9.2.2) (.sep (.slice 188 Filter_.rep w0_ y9.2.2.filters) (.slice 49 (Rep.int .u16) w1_ y9.2.2.states))) u17 h47
     have h49:=St.some (H:=(monitor_Monitor.mem u7)) (q:=u7) (x:=y9.2.2) h48
     refine Run.slim [(1,v1),(5,u1),(7,u2),(8,u3),(9,u4),(10,u7),(12,u19),(13,.int .i64 x5)] ⟨rfl,rfl,rfl,rfl,rfl,rfl,rfl,rfl,trivial⟩ ?_
     exact hk1 (x5,x4,(some y9.2.2)) _ _ ⟨u19,u7,rfl,(h49.facts (.atm (.s (.s (.s (.s (.s (.s .z)))))) (.atm (.s (.s (.s (.s (.s (.s (.s .z))))))) (.atm (.s (.s (.s (.s (.s (.s (.s (.s .z)))))))) (.atm (.s (.s (.s (.s (.s (.s (.s (.s (.s .z))))))))) .nil))))).picks (.cons (.s (.s (.s .z))) (.cons (.s (.s (.s .z))) (.cons (.s .z) (.cons .z .nil))))⟩ hF
    refine Run.skip (Run.endBlock (Run.reg (gm rfl (gb rfl (ga rfl ?_)))))
    obtain ⟨x6,e21,hF⟩:=letP_use hF
    refine RunL.name e21 ?_
    refine nil ?_
    have h50:=h42.front (.cons (.s .z) (.cons (.s .z) (.cons .z .nil)))
    have h51:=St.sep h50
    have h52:=St.sep (h51.pick (.s .z))
    have h53:=St.ex (H:=λ w1_=>.sep (.box 184 (monitor_Monitor.repW u17 w1_) u7 y9.2.2) (.sep (.slice 188 Filter_.rep u17 y9.2.2.filters) (.slice 49 (Rep.int .u16) w1_ y9.2.2.states))) u18 h52
    have h54:=St.ex (H:=λ w0_=>.ex λ w1_=>.sep (.box 184 (monitor_Monitor.repW w0_ w1_) u7 y9.2.2) (.sep (.slice 188 Filter_.rep w0_ y9.2.2.filters) (.slice 49 (Rep.int .u16) w1_ y9.2.2.states))) u17 h53
    have h55:=St.some (H:=(monitor_Monitor.mem u7)) (q:=u7) (x:=y9.2.2) h54
    refine Run.slim [(1,v1),(5,u1),(7,u2),(8,u3),(9,u4),(10,u7),(12,u6),(13,.int .i64 x6)] ⟨rfl,rfl,rfl,rfl,rfl,rfl,rfl,rfl,trivial⟩ ?_
    exact hk1 (x6,s3.2.1,(some y9.2.2)) _ _ ⟨u6,u7,rfl,(h55.facts (.atm (.s (.s (.s (.s (.s (.s .z)))))) (.atm (.s (.s (.s (.s (.s (.s (.s .z))))))) (.atm (.s (.s (.s (.s (.s (.s (.s (.s .z)))))))) (.atm (.s (.s (.s (.s (.s (.s (.s (.s (.s .z))))))))) .nil))))).picks (.cons (.s (.s .z)) (.cons (.s (.s .z)) (.cons (.s (.s .z)) (.cons .z .nil))))⟩ hF
   refine Run.exit rfl ?_
   refine sr (gm rfl (gm rfl ?_))
   obtain ⟨y10,e22,hF⟩:=bindP_use hF
   refine op (OpS.callP h22 Tryz.func27 rfl rfl rfl rfl (vs:=[u3,u6]) rfl (monitor_Recover_ok e22) (.cons (f:=true) (V.at (.s .z)) (.own (.s (.s .z)) (.ptr (.s (.s (.s .z))) .nil))) ?_)
   rintro _ w15 _ _ _ ⟨u20,rfl,rfl,rfl,rfl⟩ h56
   have h57:=h56 rfl rfl
   simp only [ca,na] at h57
   refine gm rfl (op (OpS.ext rfl rfl rfl rfl ?_))
   refine op (OpS.ext rfl rfl rfl rfl ?_)
   refine ga rfl ?_
   have h58:=(h57.pick .z).freeze
   refine ga rfl (nil (Run.seq (sr (gm rfl (gb rfl (gm rfl ?_))))))
   refine RunL.join (σ:=Bool) (λ s_ L_ w_=>L_=[(5,u1),(7,u2),(8,u3),(9,u4),(10,u7),(16,u20),(98,.bool s_)]∧St e w_ [(true,.val (Rep.slice Sensor_.rep) u3 y4.1),(true,.val (Rep.slice Association_.rep) u4 y5.1),(true,.val (Rep.slice (Rep.int .u16)) u20 y10.1),Gqs] [(false,.box 66 Entity_.rep u1 a2),(false,.box 163 made_Dice.rep u2 y5.2),(false,.opt (monitor_Monitor.mem u7) u7 s3.2.2)]) hF (λ s4 _ w16 hI hF=>?_) (λ j3 hj3 hF=>?_)
   ·obtain ⟨rfl,h59⟩:=hI
    refine Run.ite rfl hF (λ e23 hF=>?_) (λ e23 hF=>?_)
    ·refine sr (ga rfl (nil (Run.retP rfl (.tmp rfl .nil) ?_)))
     cases hF
     exact Post.mk' ⟨rfl,rfl,rfl,rfl⟩ (h59.picks .nil) .nil
    refine Run.skip (Run.seq (sr (gm rfl ?_)))
    obtain ⟨y11,e24,hF⟩:=bindP_use hF
    have h60:=h59.front (.cons (.s .z) .nil)
    refine op (OpS.callO h60 Tryz.func31 rfl rfl rfl rfl (vs:=[u2,.int .i64 3]) rfl (made_Dice_Bool_ok e24) rfl .nil ?_)
    rintro _ w17 _ _ _ ⟨rfl,rfl,rfl,rfl⟩ h61
    have h62:=h61
    simp only [ca,na] at h62
    refine nil ?_
    refine Run.join (σ:=Entity_) (λ s_ L_ w_=>L_=[(5,u1),(8,u3),(9,u4),(10,u7),(16,u20)]∧St e w_ [(true,.val (Rep.slice Sensor_.rep) u3 y4.1),(true,.val (Rep.slice Association_.rep) u4 y5.1),(true,.val (Rep.slice (Rep.int .u16)) u20 y10.1),Gqs] [(false,.box 66 Entity_.rep u1 s_),(false,.opt (monitor_Monitor.mem u7) u7 s3.2.2)]) hF (λ s5 _ w18 hI hF=>?_) (λ j4 hj4 hF=>?_)
    ·obtain ⟨rfl,h63⟩:=hI
     refine sr (ga rfl (nil (Run.seq (sr (ga rfl (nil (Run.block (Run.slim [(5,u1),(8,u3),(9,u4),(10,u7),(16,u20),(17,.int .i64 0),(18,.int .i64 0)] ⟨rfl,rfl,rfl,rfl,rfl,rfl,rfl,trivial⟩ ?_))))))))
     refine Run.loopP (σ:=(Int×Int×(Option monitor_Monitor))) (λ s_ L_ w_=>∃ u0_:Value,L_=[(5,u1),(8,u3),(9,u4),(10,u0_),(16,u20),(17,.int .i64 s_.1),(18,.int .i64 s_.2.1)]∧St e w_ [(true,.val (Rep.slice Sensor_.rep) u3 y4.1),(true,.val (Rep.slice Association_.rep) u4 y5.1),(true,.val (Rep.slice (Rep.int .u16)) u20 y10.1),Gqs] [(false,.box 66 Entity_.rep u1 s5),(false,.opt (monitor_Monitor.mem u0_) u0_ s_.2.2)]) hF ⟨u7,rfl,(h63.facts (.atm .z (.atm (.s .z) (.atm (.s (.s .z)) (.atm (.s (.s (.s .z))) .nil))))).picks (.cons .z (.cons .z .nil))⟩ (λ k2 hk2 s6 _ w19 hI hF=>?_)
     obtain ⟨u21,rfl,h64⟩:=hI
     refine Run.seq (sr (gm rfl (gm rfl (op (OpS.len h64 Tryz.underlying27 rfl rfl rfl (V.at .z) ?_)))))
     refine gb rfl (nil ?_)
     refine Run.ite rfl hF (λ e25 hF=>?_) (λ e25 hF=>?_)
     ·refine Run.skip (Run.seq (Run.block (sr (gm rfl (gm rfl ?_)))))
      obtain ⟨x7,e26,hF⟩:=bindP_use hF
      refine op (OpS.iptr h64 Tryz.underlying27 ty74 rfl rfl rfl rfl (V.at .z) e26 (λ u22 h65=>?_))
      refine op (OpS.fptr h65 fa74_4 Sensor_.f4 rfl rfl rfl .z (λ u23 h66=>?_))
      refine op (OpS.load h66 ty66 rfl rfl rfl .z (λ u24 h67=>?_))
      refine op (OpS.alloc h67 ti66 Entity_.zr rfl rfl (λ u25 w20 h68=>?_))
      refine op (OpS.storeB (f':=true) h68 .z PA.z Put.id ty66 rfl rfl rfl (V.at .z) (.inl rfl) (λ w21 h69=>?_))
      refine nil (sr (op (OpS.loadB h69 .z PA.z Get.id ty66 rfl rfl rfl (λ u26 h70=>?_))))
      refine op (OpS.loadB h70 (.s .z) PA.z Get.id ty66 rfl rfl rfl (λ u27 h71=>?_))
      refine op (OpS.eqA h71 eqt66 rfl gdf66 rfl rfl rfl rfl rfl (V.at (.s .z)) (V.at .z) ?_)
      refine ga rfl ?_
      obtain ⟨x8,e27,hF⟩:=letP_use hF
      refine RunL.nameb e27 ?_
      refine nil (Run.seq (sr (ga rfl (nil (Run.block (Run.slim [(5,u1),(8,u3),(9,u4),(10,u21),(16,u20),(17,.int .i64 s6.1),(18,.int .i64 s6.2.1),(19,u25),(20,.bool x8),(21,.int .i64 0)] ⟨rfl,rfl,rfl,rfl,rfl,rfl,rfl,rfl,rfl,rfl,trivial⟩ ?_))))))
      refine Run.loopP (σ:=(Bool×Int×Entity_)) (λ s_ L_ w_=>L_=[(5,u1),(8,u3),(9,u4),(10,u21),(16,u20),(17,.int .i64 s6.1),(18,.int .i64 s6.2.1),(19,u25),(20,.bool s_.1),(21,.int .i64 s_.2.1)]∧St e w_ [(true,.val (Rep.slice Sensor_.rep) u3 y4.1),(true,.val (Rep.slice Association_.rep) u4 y5.1),(true,.val (Rep.slice (Rep.int .u16)) u20 y10.1),Gqs] [(false,.box 66 Entity_.rep u1 s5),(false,.opt (monitor_Monitor.mem u21) u21 s6.2.2),(true,.box 66 Entity_.rep u25 s_.2.2)]) hF ⟨rfl,(h71.facts (.atm (.s (.s (.s (.s (.s .z))))) (.atm (.s (.s (.s (.s (.s (.s .z)))))) (.atm (.s (.s (.s (.s (.s (.s (.s .z))))))) (.atm (.s (.s (.s (.s (.s (.s (.s (.s .z)))))))) .nil))))).picks (.cons (.s .z) (.cons (.s .z) (.cons .z .nil)))⟩ (λ k3 hk3 s7 _ w22 hI hF=>?_)
      obtain ⟨rfl,h72⟩:=hI
      refine Run.seq (sr (gm rfl (gm rfl (op (OpS.len h72 Tryz.underlying76 rfl rfl rfl (V.at (.s .z)) ?_)))))
      refine gb rfl (gm rfl ?_)
      refine RunL.join (σ:=Bool) (λ s_ L_ w_=>L_=[(5,u1),(8,u3),(9,u4),(10,u21),(16,u20),(17,.int .i64 s6.1),(18,.int .i64 s6.2.1),(19,u25),(20,.bool s7.1),(21,.int .i64 s7.2.1),(124,.bool s_)]∧St e w_ [(true,.val (Rep.slice Sensor_.rep) u3 y4.1),(true,.val (Rep.slice Association_.rep) u4 y5.1),(true,.val (Rep.slice (Rep.int .u16)) u20 y10.1),Gqs] [(false,.box 66 Entity_.rep u1 s5),(false,.opt (monitor_Monitor.mem u21) u21 s6.2.2),(true,.box 66 Entity_.rep u25 s7.2.2)]) hF (λ s8 _ w23 hI hF=>?_) (λ j5 hj5 hF=>?_)
      ·obtain ⟨rfl,h73⟩:=hI
       refine Run.ite rfl hF (λ e28 hF=>?_) (λ e28 hF=>?_)
       ·refine Run.skip (Run.seq (Run.block (Run.seq (sr (ga rfl (nil ?_))))))
        refine Run.join (σ:=Entity_) (λ s_ L_ w_=>L_=[(5,u1),(8,u3),(9,u4),(10,u21),(16,u20),(17,.int .i64 s6.1),(18,.int .i64 s6.2.1),(19,u25),(21,.int .i64 s7.2.1)]∧St e w_ [(true,.val (Rep.slice Sensor_.rep) u3 y4.1),(true,.val (Rep.slice Association_.rep) u4 y5.1),(true,.val (Rep.slice (Rep.int .u16)) u20 y10.1),Gqs] [(false,.box 66 Entity_.rep u1 s5),(false,.opt (monitor_Monitor.mem u21) u21 s6.2.2),(true,.box 66 Entity_.rep u25 s_)]) hF (λ s9 _ w24 hI hF=>?_) (λ j6 hj6 hF=>?_)
        ·obtain ⟨rfl,h74⟩:=hI
         refine Run.reg (op (OpS.loadB h74 (.s (.s .z)) PA.z Get.id ty66 rfl rfl rfl (λ u28 h75=>?_)))
         refine op (OpS.loadB h75 .z PA.z Get.id ty66 rfl rfl rfl (λ u29 h76=>?_))
         refine op (OpS.eqA h76 eqt66 rfl gdf66 rfl rfl rfl rfl rfl (V.at (.s .z)) (V.at .z) ?_)
         refine ga rfl ?_
         obtain ⟨x9,e29,hF⟩:=letP_use hF
         refine RunL.nameb e29 ?_
         refine nil (Run.endBlock (Run.reg (gm rfl (gb rfl (ga rfl ?_)))))
         obtain ⟨x10,e30,hF⟩:=letP_use hF
         refine RunL.name e30 ?_
         refine nil (Run.slim [(5,u1),(8,u3),(9,u4),(10,u21),(16,u20),(17,.int .i64 s6.1),(18,.int .i64 s6.2.1),(19,u25),(20,.bool x9),(21,.int .i64 x10)] ⟨rfl,rfl,rfl,rfl,rfl,rfl,rfl,rfl,rfl,rfl,trivial⟩ ?_)
         exact hk3 (x9,x10,s9) _ _ ⟨rfl,(h76.facts (.atm (.s (.s .z)) (.atm (.s (.s (.s .z))) (.atm (.s (.s (.s (.s .z)))) (.atm (.s (.s (.s (.s (.s .z))))) .nil))))).picks (.cons .z (.cons .z (.cons .z .nil)))⟩ hF
        refine Run.block (Run.slim [(5,u1),(8,u3),(9,u4),(10,u21),(16,u20),(17,.int .i64 s6.1),(18,.int .i64 s6.2.1),(19,u25),(21,.int .i64 s7.2.1),(22,.int .i64 0)] ⟨rfl,rfl,rfl,rfl,rfl,rfl,rfl,rfl,rfl,rfl,trivial⟩ ?_)
        refine Run.loopP (σ:=Int) (λ s_ L_ w_=>L_=[(5,u1),(8,u3),(9,u4),(10,u21),(16,u20),(17,.int .i64 s6.1),(18,.int .i64 s6.2.1),(19,u25),(21,.int .i64 s7.2.1),(22,.int .i64 s_)]∧St e w_ [(true,.val (Rep.slice Sensor_.rep) u3 y4.1),(true,.val (Rep.slice Association_.rep) u4 y5.1),(true,.val (Rep.slice (Rep.int .u16)) u20 y10.1),Gqs] [(false,.box 66 Entity_.rep u1 s5),(false,.opt (monitor_Monitor.mem u21) u21 s6.2.2),(true,.box 66 Entity_.rep u25 s7.2.2)]) hF ⟨rfl,(h73.facts (.atm .z (.atm (.s .z) (.atm (.s (.s .z)) (.atm (.s (.s (.s .z))) .nil))))).picks (.cons .z (.cons .z (.cons .z .nil)))⟩ (λ k4 hk4 s10 _ w25 hI hF=>?_)
        obtain ⟨rfl,h77⟩:=hI
        refine Run.seq (sr (gm rfl (gm rfl (op (OpS.len h77 Tryz.underlying76 rfl rfl rfl (V.at (.s .z)) ?_)))))
        refine gb rfl (nil ?_)
        refine Run.ite rfl hF (λ e31 hF=>?_) (λ e31 hF=>?_)
        ·refine Run.skip (Run.seq (Run.block (Run.seq ?_)))
         have h78:=h77.picks (.cons (.s (.s .z)) (.cons .z (.cons .z .nil)))
         obtain ⟨x11,e32,hF⟩:=bindP_use hF
         refine Run.drawV (Ωs:=[(false,.box 66 Entity_.rep u1 s5),(false,.opt (monitor_Monitor.mem u21) u21 s6.2.2)]) [.k 133 u4,.k 134 (.int .i64 s10),.f 135 (λ u_=>[(true,.ptr Association_.rep u_ x11)]),.f 136 (λ u_=>[(true,.ptr Entity_.rep u_ x11.Contained)]),.f 137 (λ u_=>[(true,.val Entity_.rep u_ x11.Contained)]),.fr 138 (λ u_=>[(true,.val Entity_.rep u_ s7.2.2)]) [0]] [[],[],[0,1],[2],[3],[]] [[(true,.box 66 Entity_.rep u25 s7.2.2)]] [0,1,2,3,4,5,6] Try_mixed rfl rfl rfl h78 (.cons ?_ (.cons ?_ (.cons ?_ (.cons ?_ (.cons ?_ (.cons ?_ .nil)))))) (λ q1 w hq1 h=>?_)
         ·intro q1 w Γx Ωx h
          refine OpS.mv rfl rfl rfl ?_
          exact du h
         ·intro q1 w Γx Ωx h
          refine OpS.mv rfl rfl rfl ?_
          exact du h
         ·intro q1 w Γx Ωx h
          refine OpS.iptr h Tryz.underlying76 ty83 rfl rfl rfl rfl (V.at (.s .z)) e32 (λ u h83=>?_)
          exact ⟨u,rfl,trivial,h83⟩
         ·intro q1 w Γx Ωx h
          refine OpS.fptr h fa83_1 Association_.f1 rfl rfl rfl .z (λ u h84=>?_)
          exact ⟨u,rfl,trivial,h84⟩
         ·intro q1 w Γx Ωx h
          refine OpS.load h ty66 rfl rfl rfl .z (λ u h85=>?_)
          exact ⟨u,rfl,trivial,h85⟩
         ·intro q1 w Γx Ωx h
          refine OpS.loadB h .z PA.z Get.id ty66 rfl rfl rfl (λ u h86=>?_)
          exact ⟨u,rfl,trivial,h86⟩
         have h87:=h
         refine op (OpS.eqA h87 eqt66 rfl gdf66 rfl rfl rfl rfl rfl (V.at (.s (.s .z))) (V.at (.s (.s (.s .z)))) ?_)
         refine nil ?_
         refine Run.ite rfl hF (λ e33 hF=>?_) (λ e33 hF=>?_)
         ·refine sr (gm rfl (gm rfl ?_))
          obtain ⟨x12,e34,hF⟩:=bindP_use hF
          refine op (OpS.iptr h87 Tryz.underlying76 ty83 rfl rfl rfl rfl (V.at (.s (.s (.s (.s (.s .z)))))) e34 (λ u30 h88=>?_))
          refine op (OpS.fptr h88 fa83_0 Association_.f0 rfl rfl rfl .z (λ u31 h89=>?_))
          refine op (OpS.load h89 ty66 rfl rfl rfl .z (λ u32 h90=>?_))
          refine op (OpS.storeB (f':=true) h90 .z PA.z Put.id ty66 rfl rfl rfl (V.at .z) (.inl rfl) (λ w26 h91=>?_))
          refine nil (Run.exit rfl ?_)
          refine Run.slim [(5,u1),(8,u3),(9,u4),(10,u21),(16,u20),(17,.int .i64 s6.1),(18,.int .i64 s6.2.1),(19,u25),(21,.int .i64 s7.2.1)] ⟨rfl,rfl,rfl,rfl,rfl,rfl,rfl,rfl,rfl,trivial⟩ ?_
          exact hj6 (x12.Container) _ _ ⟨rfl,(h91.facts (.atm (.s (.s (.s (.s (.s (.s (.s .z))))))) (.atm (.s (.s (.s (.s (.s (.s (.s (.s .z)))))))) (.atm (.s (.s (.s (.s (.s (.s (.s (.s (.s .z))))))))) (.atm (.s (.s (.s (.s (.s (.s (.s (.s (.s (.s .z)))))))))) .nil))))).picks (.cons (.s .z) (.cons (.s .z) (.cons .z .nil)))⟩ hF
         refine Run.skip (Run.endBlock (Run.reg (gm rfl (gb rfl (ga rfl ?_)))))
         obtain ⟨x13,e35,hF⟩:=letP_use hF
         refine RunL.name e35 ?_
         refine nil (Run.slim [(5,u1),(8,u3),(9,u4),(10,u21),(16,u20),(17,.int .i64 s6.1),(18,.int .i64 s6.2.1),(19,u25),(21,.int .i64 s7.2.1),(22,.int .i64 x13)] ⟨rfl,rfl,rfl,rfl,rfl,rfl,rfl,rfl,rfl,rfl,trivial⟩ ?_)
         exact hk4 (x13) _ _ ⟨rfl,(h87.facts (.atm (.s (.s (.s (.s .z)))) (.atm (.s (.s (.s (.s (.s .z))))) (.atm (.s (.s (.s (.s (.s (.s .z)))))) (.atm (.s (.s (.s (.s (.s (.s (.s .z))))))) .nil))))).picks (.cons (.s .z) (.cons (.s .z) (.cons .z .nil)))⟩ hF
        refine Run.exit rfl ?_
        refine Run.slim [(5,u1),(8,u3),(9,u4),(10,u21),(16,u20),(17,.int .i64 s6.1),(18,.int .i64 s6.2.1),(19,u25),(21,.int .i64 s7.2.1)] ⟨rfl,rfl,rfl,rfl,rfl,rfl,rfl,rfl,rfl,trivial⟩ ?_
        exact hj6 (s7.2.2) _ _ ⟨rfl,(h77.facts (.atm .z (.atm (.s .z) (.atm (.s (.s .z)) (.atm (.s (.s (.s .z))) .nil))))).picks (.cons .z (.cons .z (.cons .z .nil)))⟩ hF
       refine Run.exit rfl ?_
       refine sr (gm rfl (gm rfl (gm rfl ?_)))
       obtain ⟨x14,e36,hF⟩:=bindP_use hF
       refine op (OpS.iptr h73 Tryz.underlying27 ty74 rfl rfl rfl rfl (V.at .z) e36 (λ u33 h92=>?_))
       refine op (OpS.fptr h92 fa74_0 Sensor_.f0 rfl rfl rfl .z (λ u34 h93=>?_))
       refine op (OpS.loadi h93 ty5 rfl rfl rfl .z ?_)
       obtain ⟨x15,e37,hF⟩:=bindP_use hF
       have h94:=St.unopt (h93.pick (.s .z)) e37
       obtain ⟨u35,h95⟩:=h94.unex
       obtain ⟨u36,h96⟩:=h95.unex
       have h97:=h96.unsep
       have h98:=(h97.pick (.s .z)).unsep
       obtain ⟨y12,e38,hF⟩:=bindP_use hF
       have h99:=h98.front (.cons (.s (.s .z)) (.cons .z (.cons .z .nil)))
       refine op (OpS.callO h99 Tryz.func33 rfl rfl rfl rfl (vs:=[u21,.int .u8 x14.Number]) rfl (monitor_Monitor_Reading_ok e38) rfl .nil ?_)
       rintro _ w27 _ _ _ ⟨rfl,rfl,rfl,rfl⟩ h100
       have h101:=h100
       simp only [ca,na] at h101
       refine gm rfl (op (OpS.ext rfl rfl rfl rfl ?_))
       refine op (OpS.ext rfl rfl rfl rfl ?_)
       refine ga rfl (ga rfl (nil (sr (gm rfl (gm rfl ?_)))))
       refine RunL.join (σ:=Bool) (λ s_ L_ w_=>L_=[(5,u1),(8,u3),(9,u4),(10,u21),(16,u20),(17,.int .i64 s6.1),(18,.int .i64 s6.2.1),(161,.bool s_)]∧St e w_ [(true,.val (Rep.slice Sensor_.rep) u3 y4.1),(true,.val (Rep.slice Association_.rep) u4 y5.1),(true,.val (Rep.slice (Rep.int .u16)) u20 y10.1),Gqs] [(false,.box 66 Entity_.rep u1 s5),(false,.box 184 (monitor_Monitor.repW u35 u36) u21 x15),(false,.slice 188 Filter_.rep u35 x15.filters),(false,.slice 49 (Rep.int .u16) u36 x15.states)]) hF (λ s11 _ w28 hI hF=>?_) (λ j7 hj7 hF=>?_)
       ·obtain ⟨rfl,h102⟩:=hI
        refine Run.ite rfl hF (λ e39 hF=>?_) (λ e39 hF=>?_)
        ·refine Run.reg (gm rfl (gm rfl (gm rfl ?_)))
         obtain ⟨x16,e40,hF⟩:=bindP_use hF
         refine op (OpS.iptr h102 Tryz.underlying60 ty49 rfl rfl rfl rfl (V.at (.s (.s .z))) e40 (λ u37 h103=>?_))
         refine op (OpS.loadi h103 ty49 rfl rfl rfl .z ?_)
         refine op (OpS.conv Tryz.underlying49 Tryz.underlying5 rfl rfl rfl ?_)
         obtain ⟨y13,e41,hF⟩:=bindP_use hF
         refine op (OpS.callP h103 Tryz.func34 rfl rfl rfl rfl (vs:=[.int .u8 (IntKind.u8.wrap x16)]) rfl (threshold_Severity_ok e41) .nil ?_)
         rintro _ w29 _ _ _ ⟨rfl,rfl,rfl,rfl⟩ h104
         have h105:=h104 rfl rfl
         simp only [ca,na] at h105
         refine op (OpS.maxi rfl rfl rfl rfl ?_)
         refine ga rfl (nil (Run.endBlock (Run.reg (gm rfl (gb rfl (ga rfl ?_))))))
         obtain ⟨x17,e42,hF⟩:=letP_use hF
         refine RunL.name e42 ?_
         refine nil ?_
         have h106:=h105.front (.cons (.s (.s .z)) (.cons (.s (.s .z)) (.cons (.s .z) .nil)))
         have h107:=St.sep h106
         have h108:=St.sep (h107.pick (.s .z))
         have h109:=St.ex (H:=λ w1_=>.sep (.box 184 (monitor_Monitor.repW u35 w1_) u21 x15) (.sep (.slice 188 Filter_.rep u35 x15.filters) (.slice 49 (Rep.int .u16) w1_ x15.states))) u36 h108
         have h110:=St.ex (H:=λ w0_=>.ex λ w1_=>.sep (.box 184 (monitor_Monitor.repW w0_ w1_) u21 x15) (.sep (.slice 188 Filter_.rep w0_ x15.filters) (.slice 49 (Rep.int .u16) w1_ x15.states))) u35 h109
         have h111:=St.some (H:=(monitor_Monitor.mem u21)) (q:=u21) (x:=x15) h110
         refine Run.slim [(5,u1),(8,u3),(9,u4),(10,u21),(16,u20),(17,.int .i64 (max s6.1 y13)),(18,.int .i64 x17)] ⟨rfl,rfl,rfl,rfl,rfl,rfl,rfl,trivial⟩ ?_
         exact hk2 ((max s6.1 y13),x17,(some x15)) _ _ ⟨u21,rfl,(h111.facts (.atm (.s .z) (.atm (.s (.s .z)) (.atm (.s (.s (.s .z))) (.atm (.s (.s (.s (.s .z)))) .nil))))).picks (.cons (.s .z) (.cons .z .nil))⟩ hF
        refine Run.skip (Run.endBlock (Run.reg (gm rfl (gb rfl (ga rfl ?_)))))
        obtain ⟨x18,e43,hF⟩:=letP_use hF
        refine RunL.name e43 ?_
        refine nil ?_
        have h112:=h102.front (.cons (.s (.s .z)) (.cons (.s (.s .z)) (.cons (.s .z) .nil)))
        have h113:=St.sep h112
        have h114:=St.sep (h113.pick (.s .z))
        have h115:=St.ex (H:=λ w1_=>.sep (.box 184 (monitor_Monitor.repW u35 w1_) u21 x15) (.sep (.slice 188 Filter_.rep u35 x15.filters) (.slice 49 (Rep.int .u16) w1_ x15.states))) u36 h114
        have h116:=St.ex (H:=λ w0_=>.ex λ w1_=>.sep (.box 184 (monitor_Monitor.repW w0_ w1_) u21 x15) (.sep (.slice 188 Filter_.rep w0_ x15.filters) (.slice 49 (Rep.int .u16) w1_ x15.states))) u35 h115
        have h117:=St.some (H:=(monitor_Monitor.mem u21)) (q:=u21) (x:=x15) h116
        refine Run.slim [(5,u1),(8,u3),(9,u4),(10,u21),(16,u20),(17,.int .i64 s6.1),(18,.int .i64 x18)] ⟨rfl,rfl,rfl,rfl,rfl,rfl,rfl,trivial⟩ ?_
        exact hk2 (s6.1,x18,(some x15)) _ _ ⟨u21,rfl,(h117.facts (.atm .z (.atm (.s .z) (.atm (.s (.s .z)) (.atm (.s (.s (.s .z))) .nil))))).picks (.cons (.s .z) (.cons .z .nil))⟩ hF
       refine RunL.caseb hF (λ e44 hF=>?_) (λ e44 hF=>?_)
       ·refine gm rfl (gk rfl (nil (Run.slim [(5,u1),(8,u3),(9,u4),(10,u21),(16,u20),(17,.int .i64 s6.1),(18,.int .i64 s6.2.1),(161,.bool s7.1)] ⟨rfl,rfl,rfl,rfl,rfl,rfl,rfl,rfl,trivial⟩ ?_)))
        exact hj7 (s7.1) _ _ ⟨rfl,(h101.facts (.atm (.s (.s .z)) (.atm (.s (.s (.s .z))) (.atm (.s (.s (.s (.s .z)))) (.atm (.s (.s (.s (.s (.s .z))))) .nil))))).picks (.cons (.s (.s (.s .z))) (.cons .z (.cons .z (.cons .z .nil))))⟩ hF
       refine gp rfl (gk rfl (nil (Run.slim [(5,u1),(8,u3),(9,u4),(10,u21),(16,u20),(17,.int .i64 s6.1),(18,.int .i64 s6.2.1),(161,.bool false)] ⟨rfl,rfl,rfl,rfl,rfl,rfl,rfl,rfl,trivial⟩ ?_)))
       exact hj7 (false) _ _ ⟨rfl,(h101.facts (.atm (.s (.s .z)) (.atm (.s (.s (.s .z))) (.atm (.s (.s (.s (.s .z)))) (.atm (.s (.s (.s (.s (.s .z))))) .nil))))).picks (.cons (.s (.s (.s .z))) (.cons .z (.cons .z (.cons .z .nil))))⟩ hF
      refine RunL.caseb hF (λ e45 hF=>?_) (λ e45 hF=>?_)
      ·refine gm rfl (op (OpS.not rfl rfl rfl ?_))
       refine gk rfl (nil (Run.slim [(5,u1),(8,u3),(9,u4),(10,u21),(16,u20),(17,.int .i64 s6.1),(18,.int .i64 s6.2.1),(19,u25),(20,.bool s7.1),(21,.int .i64 s7.2.1),(124,.bool (!s7.1))] ⟨rfl,rfl,rfl,rfl,rfl,rfl,rfl,rfl,rfl,rfl,rfl,trivial⟩ ?_))
       exact hj5 (!s7.1) _ _ ⟨rfl,(h72.facts (.atm .z (.atm (.s .z) (.atm (.s (.s .z)) (.atm (.s (.s (.s .z))) .nil))))).picks (.cons .z (.cons .z (.cons .z .nil)))⟩ hF
      refine gp rfl (gp rfl (gk rfl (nil (Run.slim [(5,u1),(8,u3),(9,u4),(10,u21),(16,u20),(17,.int .i64 s6.1),(18,.int .i64 s6.2.1),(19,u25),(20,.bool s7.1),(21,.int .i64 s7.2.1),(124,.bool false)] ⟨rfl,rfl,rfl,rfl,rfl,rfl,rfl,rfl,rfl,rfl,rfl,trivial⟩ ?_))))
      exact hj5 (false) _ _ ⟨rfl,(h72.facts (.atm .z (.atm (.s .z) (.atm (.s (.s .z)) (.atm (.s (.s (.s .z))) .nil))))).picks (.cons .z (.cons .z (.cons .z .nil)))⟩ hF
     refine Run.exit rfl ?_
     refine sr (gm rfl (op (OpS.loadB h64 .z PA.z Get.id ty66 rfl rfl rfl (λ u38 h118=>?_))))
     obtain ⟨x19,e46,hF⟩:=bindP_use hF
     have h119:=St.unopt (h118.pick (.s .z)) e46
     obtain ⟨u39,h120⟩:=h119.unex
     obtain ⟨u40,h121⟩:=h120.unex
     have h122:=h121.unsep
     have h123:=(h122.pick (.s .z)).unsep
     obtain ⟨y14,e47,hF⟩:=bindP_use hF
     have h124:=h123.front (.cons (.s (.s .z)) (.cons .z (.cons .z .nil)))
     refine op (OpS.callO h124 Tryz.func35 rfl rfl rfl rfl (vs:=[u21,.slice none 0 0,u38]) rfl (monitor_Monitor_Health_ok e47) rfl (.cons (f:=true) V.nil (.cons (f:=false) (V.at .z) .nil)) ?_)
     rintro _ w30 _ _ _ ⟨rfl,rfl,rfl,rfl⟩ h125
     have h126:=h125
     simp only [ca,na] at h126
     refine gm rfl (op (OpS.ext rfl rfl rfl rfl ?_))
     refine op (OpS.ext rfl rfl rfl rfl ?_)
     refine ga rfl (ga rfl (nil (sr (gm rfl (gb rfl (gm rfl ?_))))))
     refine RunL.caseb hF (λ e48 hF=>?_) (λ e48 hF=>?_)
     ·refine gm rfl (gm rfl (gb rfl (gk rfl (ga rfl ?_))))
      obtain ⟨x20,e49,hF⟩:=letP_use hF
      refine RunL.nameb e49 ?_
      refine nil (Run.retP rfl (.tmp rfl .nil) ?_)
      cases hF
      exact Post.mk' ⟨rfl,rfl,rfl,rfl⟩ (h126.picks .nil) .nil
     refine gp rfl (gp rfl (gp rfl (gk rfl (ga rfl (nil (Run.retP rfl (.tmp rfl .nil) ?_))))))
     cases hF
     exact Post.mk' ⟨rfl,rfl,rfl,rfl⟩ (h126.picks .nil) .nil
    refine Run.ite rfl hF (λ e50 hF=>?_) (λ e50 hF=>?_)
    ·refine Run.reg (gm rfl ?_)
     obtain ⟨y15,e51,hF⟩:=bindP_use hF
     have h127:=h62.front (.cons .z .nil)
     refine op (OpS.callO h127 Tryz.func32 rfl rfl rfl rfl (vs:=[u2]) rfl (made_Dice_Entity_ok e51) rfl .nil ?_)
     rintro u41 w31 _ _ _ ⟨_,rfl,rfl,rfl,rfl⟩ h128
     have h129:=h128
     simp only [ca,na] at h129
     refine op (OpS.storeB (f':=false) h129 (.s .z) PA.z Put.id ty66 rfl rfl rfl (V.weak (V.at .z)) (.inr rfl) (λ w32 h130=>?_))
     refine nil (Run.slim [(5,u1),(8,u3),(9,u4),(10,u7),(16,u20)] ⟨rfl,rfl,rfl,rfl,rfl,trivial⟩ ?_)
     exact hj4 (y15.1) _ _ ⟨rfl,(h130.facts (.atm (.s .z) (.atm (.s (.s .z)) (.atm (.s (.s (.s .z))) (.atm (.s (.s (.s (.s .z)))) .nil))))).picks (.cons .z (.cons (.s .z) .nil))⟩ hF
    refine Run.skip (Run.slim [(5,u1),(8,u3),(9,u4),(10,u7),(16,u20)] ⟨rfl,rfl,rfl,rfl,rfl,trivial⟩ ?_)
    exact hj4 (a2) _ _ ⟨rfl,(h62.facts (.atm .z (.atm (.s .z) (.atm (.s (.s .z)) (.atm (.s (.s (.s .z))) .nil))))).picks (.cons (.s .z) (.cons (.s .z) .nil))⟩ hF
   refine RunL.caseb hF (λ e52 hF=>?_) (λ e52 hF=>?_)
   ·refine gp rfl (gp rfl (gp rfl (gp rfl (gp rfl (gk rfl (nil (Run.slim [(5,u1),(7,u2),(8,u3),(9,u4),(10,u7),(16,u20),(98,.bool true)] ⟨rfl,rfl,rfl,rfl,rfl,rfl,rfl,trivial⟩ ?_)))))))
    exact hj3 (true) _ _ ⟨rfl,(h58.facts (.atm (.s (.s .z)) (.atm (.s (.s (.s .z))) (.atm .z (.atm (.s (.s (.s (.s .z)))) .nil))))).picks (.cons .z (.cons .z (.cons (.s .z) .nil)))⟩ hF
   refine gm rfl (op (OpS.len h58 Tryz.underlying60 rfl rfl rfl (V.at .z) ?_))
   refine gm rfl (op (OpS.len h58 Tryz.underlying27 rfl rfl rfl (V.at (.s (.s .z))) ?_))
   refine gb rfl (gk rfl (nil (Run.slim [(5,u1),(7,u2),(8,u3),(9,u4),(10,u7),(16,u20),(98,.bool ((y10.1.length:Int) != (y4.1.length:Int)))] ⟨rfl,rfl,rfl,rfl,rfl,rfl,rfl,trivial⟩ ?_)))
   exact hj3 ((y10.1.length:Int) != (y4.1.length:Int)) _ _ ⟨rfl,(h58.facts (.atm (.s (.s .z)) (.atm (.s (.s (.s .z))) (.atm .z (.atm (.s (.s (.s (.s .z)))) .nil))))).picks (.cons .z (.cons .z (.cons (.s .z) .nil)))⟩ hF
  refine RunL.caseb hF (λ e53 hF=>?_) (λ e53 hF=>?_)
  ·refine gp rfl (gp rfl (gk rfl (nil (Run.slim [(1,v1),(5,u1),(7,u2),(8,u3),(9,u4),(10,u5),(54,.bool true)] ⟨rfl,rfl,rfl,rfl,rfl,rfl,rfl,trivial⟩ ?_))))
   exact hj2 (true) _ _ ⟨rfl,(h19.facts (.atm (.s (.s (.s .z))) (.atm .z (.atm (.s .z) (.atm (.s (.s (.s (.s .z)))) .nil))))).picks (.cons (.s (.s .z)) (.cons (.s .z) (.cons .z .nil)))⟩ hF
  refine gm rfl (gb rfl (gk rfl (nil (Run.slim [(1,v1),(5,u1),(7,u2),(8,u3),(9,u4),(10,u5),(54,.bool (y6.2 != 0))] ⟨rfl,rfl,rfl,rfl,rfl,rfl,rfl,trivial⟩ ?_))))
  exact hj2 (y6.2 != 0) _ _ ⟨rfl,(h19.facts (.atm (.s (.s (.s .z))) (.atm .z (.atm (.s .z) (.atm (.s (.s (.s (.s .z)))) .nil))))).picks (.cons (.s (.s .z)) (.cons (.s .z) (.cons .z .nil)))⟩ hF
 refine RunL.caseb hF (λ e54 hF=>?_) (λ e54 hF=>?_)
 ·refine gp rfl (gp rfl (gp rfl (gk rfl (nil (Run.slim [(0,v0),(1,v1),(5,u1),(36,.bool true)] ⟨rfl,rfl,rfl,rfl,trivial⟩ ?_)))))
  exact hj1 (true) _ _ ⟨rfl,(h5.facts (.atm .z (.atm (.s .z) (.atm (.s (.s (.s .z))) .nil)))).picks (.cons .z .nil)⟩ hF
 refine gm rfl (op (OpS.len h5 Tryz.underlying23 rfl rfl rfl (V.at (.s .z)) ?_))
 refine gb rfl (gk rfl (nil (Run.slim [(0,v0),(1,v1),(5,u1),(36,.bool (decide ((a1.length:Int)>15)))] ⟨rfl,rfl,rfl,rfl,trivial⟩ ?_)))
 exact hj1 (decide ((a1.length:Int)>15)) _ _ ⟨rfl,(h5.facts (.atm .z (.atm (.s .z) (.atm (.s (.s (.s .z))) .nil)))).picks (.cons .z .nil)⟩ hF
end Lift
