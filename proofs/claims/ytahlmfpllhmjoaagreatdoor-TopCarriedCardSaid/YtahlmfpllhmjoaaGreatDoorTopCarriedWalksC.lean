import Derived.Test.YtahlmfpllhmjoaaGreatDoorTopCarriedWalksB
set_option linter.unusedVariables false
set_option linter.unusedSimpArgs false
namespace Lift
open Go Go.Proofs
open RunL (op sr nil gm ga gb gp gk dp du)
abbrev RqC1:Rep Delivery_:=Rep.iso (λ s:Delivery_=>(s.Masters,s.Bytes,s.OK,s.Failed,())) (Rep.prod (Rep.raw (α:=List Int) (.slice none 0 0)) (Rep.prod (Rep.slice (Rep.int .u8)) (Rep.prod Rep.bool (Rep.prod (Rep.raw (α:=List Int) (.slice none 0 0)) Rep.unit))))
abbrev RqC2:Rep bus_master:=Rep.iso (λ s:bus_master=>(s.queue,s.tries,s.served,())) (Rep.prod Rep.hollow (Rep.prod (Rep.int .i64) (Rep.prod Rep.bool Rep.unit)))
theorem message_Valid_ok {fuel:Nat} {a0:Message_} {y:Bool} (hF:message_Valid fuel a0=some y) {w:World} {v0:Value} :
  Spec Tryz.prog 123 [v0].toArray w [(false,.val Message_.rep v0 a0)] [] (λ v Γr Ωr Ωo=>v=.bool y∧Γr=[]∧Ωr=[]∧Ωo=[]):=by
 refine Spec.of (L:=[(0,v0)]) Tryz.func123 rfl ⟨rfl,trivial⟩ rfl (λ e h=>?_)
 unfold message_Valid at hF
 refine sr (op (OpS.boxF h rfl rfl rfl (V.at .z) (λ u1 w1 h1=>?_)))
 refine ga rfl (nil (Run.seq (sr (op (OpS.fbox (o3:=0) h1 .z PA.z fa130_0 rfl rfl rfl rfl ?_)))))
 refine op (OpS.loadBi h1 .z PA.a (Get.fld Message_.f0) ty5 rfl rfl rfl ?_)
 obtain ⟨y1,e1,hF⟩:=bindP_use hF
 refine op (OpS.callP h1 Tryz.func191 rfl rfl rfl rfl (vs:=[.int .u8 a0.To]) rfl (message_address_ok e1) .nil ?_)
 rintro _ w2 _ _ _ ⟨rfl,rfl,rfl,rfl⟩ h2
 have h3:=h2 rfl rfl
 simp only [ca,na] at h3
 refine op (OpS.not rfl rfl rfl ?_)
 refine gm rfl ?_
 refine RunL.join (σ:=Bool) (λ s_ L_ w_=>L_=[(1,u1),(29,.bool s_)]∧St e w_ [] [(false,.box 130 Message_.rep u1 a0)]) hF (λ s1 _ w3 hI hF=>?_) (λ j1 hj1 hF=>?_)
 ·obtain ⟨rfl,h4⟩:=hI
  refine Run.ite rfl hF (λ e2 hF=>?_) (λ e2 hF=>?_)
  ·refine sr (ga rfl (nil (Run.retP rfl (.tmp rfl .nil) ?_)))
   cases hF
   exact Post.mk' ⟨rfl,rfl,rfl,rfl⟩ (h4.picks .nil) .nil
  refine Run.skip (sr (op (OpS.fbox (o3:=6) h4 .z PA.z fa130_6 rfl rfl rfl rfl ?_)))
  refine op (OpS.loadBi h4 .z PA.a (Get.fld Message_.f6) ty3 rfl rfl rfl ?_)
  refine gb rfl (gm rfl ?_)
  refine RunL.caseb hF (λ e3 hF=>?_) (λ e3 hF=>?_)
  ·refine op (OpS.fbox (o3:=6) h4 .z PA.z fa130_6 rfl rfl rfl rfl ?_)
   refine op (OpS.loadBi h4 .z PA.a (Get.fld Message_.f6) ty3 rfl rfl rfl ?_)
   refine gb rfl (gk rfl (gm rfl ?_))
   refine RunL.caseb hF (λ e4 hF=>?_) (λ e4 hF=>?_)
   ·refine op (OpS.fbox (o3:=8) h4 .z PA.z fa130_8 rfl rfl rfl rfl ?_)
    refine op (OpS.loadB h4 .z PA.a (Get.fld Message_.f8) ty24 rfl rfl rfl (λ u2 h5=>?_))
    refine op (OpS.len h5 Tryz.underlying24 rfl rfl rfl (V.at .z) ?_)
    refine gb rfl (gk rfl (gm rfl ?_))
    refine RunL.caseb hF (λ e5 hF=>?_) (λ e5 hF=>?_)
    ·refine op (OpS.loadB h5 .z PA.z Get.id ty130 rfl rfl rfl (λ u3 h6=>?_))
     obtain ⟨y2,e6,hF⟩:=bindP_use hF
     refine op (OpS.callP h6 Tryz.func124 rfl rfl rfl rfl (vs:=[u3]) rfl (message_request_ok e6) (.cons (f:=false) (V.at .z) .nil) ?_)
     rintro _ w4 _ _ _ ⟨rfl,rfl,rfl,rfl⟩ h7
     have h8:=h7 rfl rfl
     simp only [ca,na] at h8
     refine op (OpS.not rfl rfl rfl ?_)
     refine gm rfl ?_
     refine RunL.caseb hF (λ e7 hF=>?_) (λ e7 hF=>?_)
     ·refine gp rfl (gp rfl (gp rfl (gk rfl (gk rfl (ga rfl (nil (Run.retP rfl (.tmp rfl .nil) ?_)))))))
      cases hF
      exact Post.mk' ⟨rfl,rfl,rfl,rfl⟩ (h8.picks .nil) .nil
     refine op (OpS.fbox (o3:=7) h8 .z PA.z fa130_7 rfl rfl rfl rfl ?_)
     refine op (OpS.loadBi h8 .z PA.a (Get.fld Message_.f7) ty5 rfl rfl rfl ?_)
     refine gb rfl (gk rfl (gk rfl (ga rfl ?_)))
     obtain ⟨x1,e8,hF⟩:=letP_use hF
     refine RunL.nameb e8 ?_
     refine nil (Run.retP rfl (.tmp rfl .nil) ?_)
     cases hF
     exact Post.mk' ⟨rfl,rfl,rfl,rfl⟩ (h8.picks .nil) .nil
    refine gp rfl (gp rfl (gp rfl (gp rfl (gp rfl (gp rfl (gp rfl (gp rfl (gk rfl (ga rfl (nil (Run.retP rfl (.tmp rfl .nil) ?_)))))))))))
    cases hF
    exact Post.mk' ⟨rfl,rfl,rfl,rfl⟩ (h5.picks .nil) .nil
   refine gp rfl (gp rfl (gp rfl (gp rfl (gk rfl (gm rfl (gp rfl (gp rfl (gp rfl (gp rfl (gp rfl (gp rfl (gp rfl (gp rfl (gk rfl (ga rfl (nil ?_))))))))))))))))
   refine Run.retP rfl (.tmp rfl .nil) ?_
   cases hF
   exact Post.mk' ⟨rfl,rfl,rfl,rfl⟩ (h4.picks .nil) .nil
  refine gp rfl (gp rfl (gp rfl (gk rfl (gm rfl (gp rfl (gp rfl (gp rfl (gp rfl (gk rfl (gm rfl (gp rfl (gp rfl (gp rfl (gp rfl (gp rfl (gp rfl ?_))))))))))))))))
  refine gp rfl (gp rfl (gk rfl (ga rfl (nil (Run.retP rfl (.tmp rfl .nil) ?_)))))
  cases hF
  exact Post.mk' ⟨rfl,rfl,rfl,rfl⟩ (h4.picks .nil) .nil
 refine RunL.caseb hF (λ e9 hF=>?_) (λ e9 hF=>?_)
 ·refine gp rfl (gp rfl (gp rfl (gp rfl (gk rfl (gm rfl (gp rfl (gp rfl (gp rfl (gk rfl (gm rfl (gp rfl (gp rfl (gp rfl (gp rfl (gk rfl (gm rfl ?_))))))))))))))))
  refine gp rfl (gp rfl (gp rfl (gp rfl (gk rfl (nil (Run.slim [(1,u1),(29,.bool true)] ⟨rfl,rfl,trivial⟩ ?_))))))
  exact hj1 (true) _ _ ⟨rfl,(h3.facts .nil).picks (.cons .z .nil)⟩ hF
 refine op (OpS.fbox (o3:=1) h3 .z PA.z fa130_1 rfl rfl rfl rfl ?_)
 refine op (OpS.loadBi h3 .z PA.a (Get.fld Message_.f1) ty5 rfl rfl rfl ?_)
 obtain ⟨y3,e10,hF⟩:=bindP_use hF
 refine op (OpS.callP h3 Tryz.func191 rfl rfl rfl rfl (vs:=[.int .u8 a0.From]) rfl (message_address_ok e10) .nil ?_)
 rintro _ w5 _ _ _ ⟨rfl,rfl,rfl,rfl⟩ h9
 have h10:=h9 rfl rfl
 simp only [ca,na] at h10
 refine op (OpS.not rfl rfl rfl ?_)
 refine gk rfl (gm rfl ?_)
 refine RunL.caseb hF (λ e11 hF=>?_) (λ e11 hF=>?_)
 ·refine gp rfl (gp rfl (gp rfl (gk rfl (gm rfl (gp rfl (gp rfl (gp rfl (gp rfl (gk rfl (gm rfl (gp rfl (gp rfl (gp rfl (gp rfl (gk rfl (nil ?_))))))))))))))))
  refine Run.slim [(1,u1),(29,.bool true)] ⟨rfl,rfl,trivial⟩ ?_
  exact hj1 (true) _ _ ⟨rfl,(h10.facts .nil).picks (.cons .z .nil)⟩ hF
 refine op (OpS.fbox (o3:=2) h10 .z PA.z fa130_2 rfl rfl rfl rfl ?_)
 refine op (OpS.loadBi h10 .z PA.a (Get.fld Message_.f2) ty5 rfl rfl rfl ?_)
 refine gb rfl (gk rfl (gm rfl ?_))
 refine RunL.caseb hF (λ e12 hF=>?_) (λ e12 hF=>?_)
 ·refine gp rfl (gp rfl (gp rfl (gp rfl (gk rfl (gm rfl (gp rfl (gp rfl (gp rfl (gp rfl (gk rfl (nil (Run.slim [(1,u1),(29,.bool true)] ⟨rfl,rfl,trivial⟩ ?_))))))))))))
  exact hj1 (true) _ _ ⟨rfl,(h10.facts .nil).picks (.cons .z .nil)⟩ hF
 refine op (OpS.fbox (o3:=4) h10 .z PA.z fa130_4 rfl rfl rfl rfl ?_)
 refine op (OpS.loadBi h10 .z PA.a (Get.fld Message_.f4) ty3 rfl rfl rfl ?_)
 obtain ⟨y4,e13,hF⟩:=bindP_use hF
 refine op (OpS.callP h10 Tryz.func192 rfl rfl rfl rfl (vs:=[.int .i64 a0.ToUnit]) rfl (message_unit_ok e13) .nil ?_)
 rintro _ w6 _ _ _ ⟨rfl,rfl,rfl,rfl⟩ h11
 have h12:=h11 rfl rfl
 simp only [ca,na] at h12
 refine op (OpS.not rfl rfl rfl ?_)
 refine gk rfl (gm rfl ?_)
 refine RunL.caseb hF (λ e14 hF=>?_) (λ e14 hF=>?_)
 ·refine gp rfl (gp rfl (gp rfl (gp rfl (gk rfl (nil (Run.slim [(1,u1),(29,.bool true)] ⟨rfl,rfl,trivial⟩ ?_))))))
  exact hj1 (true) _ _ ⟨rfl,(h12.facts .nil).picks (.cons .z .nil)⟩ hF
 refine op (OpS.fbox (o3:=5) h12 .z PA.z fa130_5 rfl rfl rfl rfl ?_)
 refine op (OpS.loadBi h12 .z PA.a (Get.fld Message_.f5) ty3 rfl rfl rfl ?_)
 obtain ⟨y5,e15,hF⟩:=bindP_use hF
 refine op (OpS.callP h12 Tryz.func192 rfl rfl rfl rfl (vs:=[.int .i64 a0.FromUnit]) rfl (message_unit_ok e15) .nil ?_)
 rintro _ w7 _ _ _ ⟨rfl,rfl,rfl,rfl⟩ h13
 have h14:=h13 rfl rfl
 simp only [ca,na] at h14
 refine op (OpS.not rfl rfl rfl ?_)
 refine gk rfl (nil (Run.slim [(1,u1),(29,.bool (!y5))] ⟨rfl,rfl,trivial⟩ ?_))
 exact hj1 (!y5) _ _ ⟨rfl,(h14.facts .nil).picks (.cons .z .nil)⟩ hF
theorem checksum_Sum8_ok {fuel:Nat} {a0:List Int} {y:Int} (hF:checksum_Sum8 fuel a0=some y) {w:World} {v0:Value} :
  Spec Tryz.prog 184 [v0].toArray w [(false,.val (Rep.slice (Rep.int .u8)) v0 a0)] [] (λ v Γr Ωr Ωo=>v=.int .u8 y∧Γr=[]∧Ωr=[]∧Ωo=[]):=by
 refine Spec.of (L:=[(0,v0)]) Tryz.func184 rfl ⟨rfl,trivial⟩ rfl (λ e h=>?_)
 unfold checksum_Sum8 at hF
 refine sr (ga rfl (nil (sr (ga rfl (nil (Run.seq (sr (gm rfl (op (OpS.len h Tryz.underlying24 rfl rfl rfl (V.at .z) ?_))))))))))
 refine gm rfl (nil (Run.block (Run.slim [(3,.int .u8 0),(6,v0),(7,.int .i64 (a0.length:Int)),(8,.int .i64 0)] ⟨rfl,rfl,rfl,rfl,trivial⟩ ?_)))
 refine Run.loopP (σ:=(Int×Int)) (λ s_ L_ w_=>L_=[(3,.int .u8 s_.1),(6,v0),(7,.int .i64 (a0.length:Int)),(8,.int .i64 s_.2)]∧St e w_ [(false,.val (Rep.slice (Rep.int .u8)) v0 a0)] []) hF ⟨rfl,(h.facts (.atm .z .nil)).picks .nil⟩ (λ k1 hk1 s1 _ w1 hI hF=>?_)
 obtain ⟨rfl,h1⟩:=hI
 refine sr (gb rfl (nil (Run.seq ?_)))
 refine Run.ite rfl hF (λ e1 hF=>?_) (λ e1 hF=>?_)
 ·refine Run.skip (Run.seq (Run.block (sr ?_)))
  obtain ⟨x1,e2,hF⟩:=bindP_use hF
  refine op (OpS.iptr h1 Tryz.underlying24 ty5 rfl rfl rfl rfl (V.at .z) e2 (λ u1 h2=>?_))
  refine op (OpS.loadi h2 ty5 rfl rfl rfl .z ?_)
  refine ga rfl (nil (Run.reg (gm rfl (gm rfl (gb rfl (ga rfl ?_))))))
  obtain ⟨x2,e3,hF⟩:=letP_use hF
  refine RunL.name e3 ?_
  refine nil (Run.endBlock (Run.reg (gb rfl (gm rfl (nil (Run.slim [(3,.int .u8 x2),(6,v0),(7,.int .i64 (a0.length:Int)),(8,.int .i64 (IntKind.i64.wrap (s1.2+1)))] ⟨rfl,rfl,rfl,rfl,trivial⟩ ?_))))))
  exact hk1 (x2,(IntKind.i64.wrap (s1.2+1))) _ _ ⟨rfl,(h2.facts (.atm (.s .z) .nil)).picks .nil⟩ hF
 refine Run.exit rfl ?_
 refine sr (gm rfl (op (OpS.neg rfl rfl rfl ?_)))
 refine ga rfl ?_
 obtain ⟨x3,e4,hF⟩:=letP_use hF
 refine RunL.name e4 ?_
 refine nil (Run.retP rfl (.tmp rfl .nil) ?_)
 cases hF
 exact Post.mk' ⟨rfl,rfl,rfl,rfl⟩ (h1.picks .nil) .nil
theorem checksum_Seal8_ok {fuel:Nat} {a0:List Int} {y:(List Int)} (hF:checksum_Seal8 fuel a0=some y) {w:World} {v0:Value} :
  Spec Tryz.prog 108 [v0].toArray w [(false,.val (Rep.slice (Rep.int .u8)) v0 a0)] [] (λ v Γr Ωr Ωo=>∃ u0:Value,v=u0∧Γr=[]∧Ωr=[(true,(.slice 5 (Rep.int .u8) u0 y))]∧Ωo=[]):=by
 refine Spec.of (L:=[(0,v0)]) Tryz.func108 rfl ⟨rfl,trivial⟩ rfl (λ e h=>?_)
 unfold checksum_Seal8 at hF
 refine sr (ga rfl (nil (sr (gm rfl ?_))))
 obtain ⟨y1,e1,hF⟩:=bindP_use hF
 refine op (OpS.callP h Tryz.func113 rfl rfl rfl rfl (vs:=[v0]) rfl (slices_Clone_byte_byte_ok e1) (.cons (f:=false) (V.at .z) .nil) ?_)
 rintro u1 w1 _ _ _ ⟨_,rfl,rfl,rfl,rfl⟩ h1
 have h2:=h1 rfl rfl
 simp only [ca,na] at h2
 refine gm rfl ?_
 obtain ⟨y2,e2,hF⟩:=bindP_use hF
 refine op (OpS.callP h2 Tryz.func184 rfl rfl rfl rfl (vs:=[v0]) rfl (checksum_Sum8_ok e2) (.cons (f:=false) (V.at .z) .nil) ?_)
 rintro _ w2 _ _ _ ⟨rfl,rfl,rfl,rfl⟩ h3
 have h4:=h3 rfl rfl
 simp only [ca,na] at h4
 refine op (OpS.lit (r:=(Rep.int .u8)) (f:=true) h4 Tryz.underlying24 ti5 rfl rfl rfl rfl rfl (.cons rfl V.int .nil) rfl rfl (λ u2 w3 h5=>?_))
 obtain ⟨x1,e3,hF⟩:=bindP_use hF
 refine op (OpS.app (f':=true) h5 .z Tryz.underlying24 ti5 rfl rfl rfl rfl rfl rfl rfl (V.at .z) (.inr Pure.int) e3 (λ u3 w4 h6=>?_))
 refine ga rfl (nil (Run.retP rfl (.tmp rfl .nil) ?_))
 cases hF
 exact Post.mk' ⟨u3,rfl,rfl,rfl,rfl⟩ (h6.picks (.cons .z .nil)) .nil
theorem message_encode_ok {fuel:Nat} {a0:Message_} {y:(List Int)} (hF:message_encode fuel a0=some y) {w:World} {v0:Value} :
  Spec Tryz.prog 125 [v0].toArray w [(false,.val Message_.rep v0 a0)] [] (λ v Γr Ωr Ωo=>∃ u0:Value,v=u0∧Γr=[]∧Ωr=[(true,(.slice 5 (Rep.int .u8) u0 y))]∧Ωo=[]):=by
 refine Spec.of (L:=[(0,v0)]) Tryz.func125 rfl ⟨rfl,trivial⟩ rfl (λ e h=>?_)
 unfold message_encode at hF
 refine sr (op (OpS.boxF h rfl rfl rfl (V.at .z) (λ u1 w1 h1=>?_)))
 refine ga rfl (nil (sr (op (OpS.fbox (o3:=0) h1 .z PA.z fa130_0 rfl rfl rfl rfl ?_))))
 refine op (OpS.loadBi h1 .z PA.a (Get.fld Message_.f0) ty5 rfl rfl rfl ?_)
 refine gb rfl (op (OpS.fbox (o3:=2) h1 .z PA.z fa130_2 rfl rfl rfl rfl ?_))
 refine op (OpS.loadBi h1 .z PA.a (Get.fld Message_.f2) ty5 rfl rfl rfl ?_)
 refine gb rfl (op (OpS.fbox (o3:=4) h1 .z PA.z fa130_4 rfl rfl rfl rfl ?_))
 refine op (OpS.loadBi h1 .z PA.a (Get.fld Message_.f4) ty3 rfl rfl rfl ?_)
 refine op (OpS.conv Tryz.underlying3 Tryz.underlying5 rfl rfl rfl ?_)
 refine gb rfl (op (OpS.lit (r:=(Rep.int .u8)) (f:=true) h1 Tryz.underlying24 ti5 rfl rfl rfl rfl rfl (.cons rfl V.int (.cons rfl V.int .nil)) rfl rfl (λ u2 w2 h2=>?_)))
 obtain ⟨y1,e1,hF⟩:=bindP_use hF
 refine op (OpS.callP h2 Tryz.func108 rfl rfl rfl rfl (vs:=[u2]) rfl (checksum_Seal8_ok e1) (.cons (f:=true) (V.at .z) .nil) ?_)
 rintro u3 w3 _ _ _ ⟨_,rfl,rfl,rfl,rfl⟩ h3
 have h4:=h3 rfl rfl
 simp only [ca,na] at h4
 refine ga rfl (nil (sr (op (OpS.fbox (o3:=1) h4 (.s .z) PA.z fa130_1 rfl rfl rfl rfl ?_))))
 refine op (OpS.loadBi h4 (.s .z) PA.a (Get.fld Message_.f1) ty5 rfl rfl rfl ?_)
 refine gb rfl (op (OpS.fbox (o3:=6) h4 (.s .z) PA.z fa130_6 rfl rfl rfl rfl ?_))
 refine op (OpS.loadBi h4 (.s .z) PA.a (Get.fld Message_.f6) ty3 rfl rfl rfl ?_)
 refine gb rfl (op (OpS.fbox (o3:=5) h4 (.s .z) PA.z fa130_5 rfl rfl rfl rfl ?_))
 refine op (OpS.loadBi h4 (.s .z) PA.a (Get.fld Message_.f5) ty3 rfl rfl rfl ?_)
 refine gb rfl (op (OpS.conv Tryz.underlying3 Tryz.underlying5 rfl rfl rfl ?_))
 refine op (OpS.fbox (o3:=3) h4 (.s .z) PA.z fa130_3 rfl rfl rfl rfl ?_)
 refine op (OpS.loadBi h4 (.s .z) PA.a (Get.fld Message_.f3) ty5 rfl rfl rfl ?_)
 refine op (OpS.litO (r:=(Rep.int .u8)) (f:=true) h4 Tryz.underlying24 ti5 rfl rfl rfl rfl rfl (.cons rfl V.int (.cons rfl V.int (.cons rfl V.int .nil))) rfl rfl (λ u4 w4 h5=>?_))
 refine ga rfl (nil (Run.seq (sr (op (OpS.loadB h5 (.s (.s .z)) PA.z Get.id ty130 rfl rfl rfl (λ u5 h6=>?_))))))
 obtain ⟨y2,e2,hF⟩:=bindP_use hF
 refine op (OpS.callP h6 Tryz.func124 rfl rfl rfl rfl (vs:=[u5]) rfl (message_request_ok e2) (.cons (f:=false) (V.at .z) .nil) ?_)
 rintro _ w5 _ _ _ ⟨rfl,rfl,rfl,rfl⟩ h7
 have h8:=h7 rfl rfl
 simp only [ca,na] at h8
 refine op (OpS.not rfl rfl rfl ?_)
 refine nil ?_
 refine Run.join (σ:=((List Int))) (λ s_ L_ w_=>∃ u0_:Value,L_=[(1,u1),(3,u3),(4,u0_)]∧St e w_ [] [(false,.box 130 Message_.rep u1 a0),(true,.slice 5 (Rep.int .u8) u3 y1),(true,.slice 5 (Rep.int .u8) u0_ s_)]) hF (λ s1 _ w6 hI hF=>?_) (λ j1 hj1 hF=>?_)
 ·obtain ⟨u6,rfl,h9⟩:=hI
  refine sr (gm rfl (gm rfl (op (OpS.fbox (o3:=8) h9 .z PA.z fa130_8 rfl rfl rfl rfl ?_))))
  refine op (OpS.loadB h9 .z PA.a (Get.fld Message_.f8) ty24 rfl rfl rfl (λ u7 h10=>?_))
  obtain ⟨x1,e3,hF⟩:=bindP_use hF
  refine op (OpS.app (f':=false) h10 (.s (.s .z)) Tryz.underlying24 ti5 rfl rfl rfl rfl rfl rfl rfl (V.at .z) (.inr Pure.int) e3 (λ u8 w7 h11=>?_))
  obtain ⟨y3,e4,hF⟩:=bindP_use hF
  refine op (OpS.callP h11 Tryz.func108 rfl rfl rfl rfl (vs:=[u8]) rfl (checksum_Seal8_ok e4) (.own .z .nil) ?_)
  rintro u9 w8 _ _ _ ⟨_,rfl,rfl,rfl,rfl⟩ h12
  have h13:=h12 rfl rfl
  simp only [ca,na] at h13
  have h14:=(h13.pick .z).freeze
  obtain ⟨x2,e5,hF⟩:=bindP_use hF
  refine op (OpS.app (f':=true) h14 (.s (.s .z)) Tryz.underlying24 ti5 rfl rfl rfl rfl rfl rfl rfl (V.at .z) (.inr Pure.int) e5 (λ u10 w9 h15=>?_))
  refine ga rfl (nil (Run.retP rfl (.tmp rfl .nil) ?_))
  cases hF
  exact Post.mk' ⟨u10,rfl,rfl,rfl,rfl⟩ (h15.picks (.cons .z .nil)) .nil
 refine Run.ite rfl hF (λ e6 hF=>?_) (λ e6 hF=>?_)
 ·refine Run.reg (gm rfl (op (OpS.fbox (o3:=7) h8 (.s (.s .z)) PA.z fa130_7 rfl rfl rfl rfl ?_)))
  refine op (OpS.loadBi h8 (.s (.s .z)) PA.a (Get.fld Message_.f7) ty5 rfl rfl rfl ?_)
  refine op (OpS.lit (r:=(Rep.int .u8)) (f:=true) h8 Tryz.underlying24 ti5 rfl rfl rfl rfl rfl (.cons rfl V.int .nil) rfl rfl (λ u11 w10 h16=>?_))
  obtain ⟨x3,e7,hF⟩:=bindP_use hF
  refine op (OpS.app (f':=true) h16 .z Tryz.underlying24 ti5 rfl rfl rfl rfl rfl rfl rfl (V.at .z) (.inr Pure.int) e7 (λ u12 w11 h17=>?_))
  refine ga rfl (nil (Run.slim [(4,u12),(3,u3),(1,u1)] ⟨rfl,rfl,rfl,trivial⟩ ?_))
  refine Run.slim [(1,u1),(3,u3),(4,u12)] ⟨rfl,rfl,rfl,trivial⟩ ?_
  exact hj1 (x3) _ _ ⟨u12,rfl,(h17.facts .nil).picks (.cons (.s (.s .z)) (.cons (.s .z) (.cons .z .nil)))⟩ hF
 refine Run.skip (Run.slim [(1,u1),(3,u3),(4,u4)] ⟨rfl,rfl,rfl,trivial⟩ ?_)
 exact hj1 ([(IntKind.u8.wrap (2*a0.From)),(IntKind.u8.wrap (IntKind.i64.wrap ((IntKind.i64.wrap (4*a0.Sequence))+a0.FromUnit))),a0.Command]) _ _ ⟨u4,rfl,(h8.facts .nil).picks (.cons (.s (.s .z)) (.cons (.s .z) (.cons .z .nil)))⟩ hF
theorem message_Request_ok {fuel:Nat} {a0:Message_} {y:(List Int)×Int} (hF:message_Request fuel a0=some y) {w:World} {v0:Value} :
  Spec Tryz.prog 57 [v0].toArray w [(false,.val Message_.rep v0 a0)] [] (λ v Γr Ωr Ωo=>∃ u0:Value,v=.tuple #[u0,.int .i64 y.2]∧Γr=[]∧Ωr=[(true,(.slice 5 (Rep.int .u8) u0 y.1))]∧Ωo=[]):=by
 refine Spec.of (L:=[(0,v0)]) Tryz.func57 rfl ⟨rfl,trivial⟩ rfl (λ e h=>?_)
 unfold message_Request at hF
 refine sr (op (OpS.boxF h rfl rfl rfl (V.at .z) (λ u1 w1 h1=>?_)))
 refine ga rfl (ga rfl (nil (Run.seq (sr (op (OpS.loadB h1 .z PA.z Get.id ty130 rfl rfl rfl (λ u2 h2=>?_)))))))
 obtain ⟨y1,e1,hF⟩:=bindP_use hF
 refine op (OpS.callP h2 Tryz.func123 rfl rfl rfl rfl (vs:=[u2]) rfl (message_Valid_ok e1) (.cons (f:=false) (V.at .z) .nil) ?_)
 rintro _ w2 _ _ _ ⟨rfl,rfl,rfl,rfl⟩ h3
 have h4:=h3 rfl rfl
 simp only [ca,na] at h4
 refine op (OpS.not rfl rfl rfl ?_)
 refine gm rfl ?_
 refine RunL.join (σ:=Bool) (λ s_ L_ w_=>L_=[(1,u1),(11,.bool s_)]∧St e w_ [] [(false,.box 130 Message_.rep u1 a0)]) hF (λ s1 _ w3 hI hF=>?_) (λ j1 hj1 hF=>?_)
 ·obtain ⟨rfl,h5⟩:=hI
  refine Run.ite rfl hF (λ e2 hF=>?_) (λ e2 hF=>?_)
  ·refine sr (ga rfl (ga rfl (nil ?_)))
   have h6:=St.nil 5 (Rep.int .u8) h5
   refine Run.retP rfl (.tmp rfl (.tmp rfl .nil)) ?_
   cases hF
   exact Post.mk' ⟨(.slice none 0 0),rfl,rfl,rfl,rfl⟩ (h6.picks (.cons .z .nil)) .nil
  refine Run.skip (sr (op (OpS.loadB h5 .z PA.z Get.id ty130 rfl rfl rfl (λ u3 h7=>?_))))
  obtain ⟨y2,e3,hF⟩:=bindP_use hF
  refine op (OpS.callP h7 Tryz.func125 rfl rfl rfl rfl (vs:=[u3]) rfl (message_encode_ok e3) (.cons (f:=false) (V.at .z) .nil) ?_)
  rintro u4 w4 _ _ _ ⟨_,rfl,rfl,rfl,rfl⟩ h8
  have h9:=h8 rfl rfl
  simp only [ca,na] at h9
  refine ga rfl (ga rfl (nil (Run.retP rfl (.tmp rfl (.tmp rfl .nil)) ?_)))
  cases hF
  exact Post.mk' ⟨u4,rfl,rfl,rfl,rfl⟩ (h9.picks (.cons .z .nil)) .nil
 refine RunL.caseb hF (λ e4 hF=>?_) (λ e4 hF=>?_)
 ·refine gp rfl (gp rfl (gp rfl (gk rfl (nil (Run.slim [(1,u1),(11,.bool true)] ⟨rfl,rfl,trivial⟩ ?_)))))
  exact hj1 (true) _ _ ⟨rfl,(h4.facts .nil).picks (.cons .z .nil)⟩ hF
 refine op (OpS.loadB h4 .z PA.z Get.id ty130 rfl rfl rfl (λ u5 h10=>?_))
 obtain ⟨y3,e5,hF⟩:=bindP_use hF
 refine op (OpS.callP h10 Tryz.func124 rfl rfl rfl rfl (vs:=[u5]) rfl (message_request_ok e5) (.cons (f:=false) (V.at .z) .nil) ?_)
 rintro _ w5 _ _ _ ⟨rfl,rfl,rfl,rfl⟩ h11
 have h12:=h11 rfl rfl
 simp only [ca,na] at h12
 refine op (OpS.not rfl rfl rfl ?_)
 refine gk rfl (nil (Run.slim [(1,u1),(11,.bool (!y3))] ⟨rfl,rfl,trivial⟩ ?_))
 exact hj1 (!y3) _ _ ⟨rfl,(h12.facts .nil).picks (.cons .z .nil)⟩ hF
theorem slices_Chunk_byte_byte_ok {fuel:Nat} {a0:List Int} {a1:Int} {y:((List Int)×Int)} (hF:slices_Chunk_byte_byte fuel a0 a1=some y) {w:World} {v0:Value} :
  Spec Tryz.prog 126 [v0,.int .i64 a1].toArray w [(false,.val (Rep.slice (Rep.int .u8)) v0 a0)] [] (λ v Γr Ωr Ωo=>∃ u0_0 u0_1:Value,v=.func (.func 193) #[] #[u0_0,u0_1]∧Γr=[]∧Ωr=[(false,.box 24 (Rep.slice (Rep.int .u8)) u0_0 y.1),(true,.box 3 (Rep.int .i64) u0_1 y.2)]∧Ωo=[]):=by
 refine Spec.of (L:=[(0,v0),(1,.int .i64 a1)]) Tryz.func126 rfl ⟨rfl,rfl,trivial⟩ rfl (λ e h=>?_)
 unfold slices_Chunk_byte_byte at hF
 refine sr (op (OpS.boxF h rfl rfl rfl (V.at .z) (λ u1 w1 h1=>?_)))
 refine op (OpS.box (f':=true) h1 rfl rfl rfl V.int (λ u2 w2 h2=>?_))
 refine ga rfl (nil (Run.seq (sr (op (OpS.loadBi h2 .z PA.z Get.id ty3 rfl rfl rfl ?_)))))
 refine gb rfl (nil ?_)
 refine Run.ite rfl hF (λ e1 hF=>?_) (λ e1 hF=>?_)
 ·refine Run.reg ?_
  cases hF
 refine Run.skip (sr (op (OpS.mkf (fl:=[]) (cl:=[u1,u2]) rfl rfl rfl rfl ?_)))
 refine ga rfl (nil (Run.retP rfl (.tmp rfl .nil) ?_))
 cases hF
 exact Post.mk' ⟨u1,u2,rfl,rfl,rfl,rfl⟩ (h2.picks (.cons (.s .z) (.cons .z .nil))) .nil
set_option maxRecDepth 20000 in
theorem slices_Chunk_byte_byte_1_2_ok {σ:Type} {fuel:Nat} {bd_:σ→(List Int)→Option σ} {s_:σ} {a1:List Int} {a2:Int} {y:σ} (hF:slices_Chunk_byte_byte_1_2 fuel bd_ s_ a1 a2=some y) {w:World} {v1 v2:Value} {l_:Nat} {I_:σ→HAtom} (hY_:YieldOK Tryz.prog l_ (Rep.slice (Rep.int .u8)) I_ bd_) :
  Spec Tryz.prog 193 [.func (.yield l_) #[] #[],v1,v2].toArray w [(false,.ptr (Rep.slice (Rep.int .u8)) v1 a1),(false,.ptr (Rep.int .i64) v2 a2)] [(false,I_ s_)] (λ v Γr Ωr Ωo=>v=.tuple #[]∧Γr=[]∧Ωr=[]∧Ωo=[(false,I_ y)]):=by
 refine Spec.of (L:=[(0,.func (.yield l_) #[] #[]),(1,v1),(2,v2)]) Tryz.func193 rfl ⟨rfl,rfl,rfl,trivial⟩ rfl (λ e h=>?_)
 unfold slices_Chunk_byte_byte_1_2 at hF
 refine sr (ga rfl (nil (Run.block (Run.slim [(0,.func (.yield l_) #[] #[]),(1,v1),(2,v2),(4,.int .i64 0)] ⟨rfl,rfl,rfl,rfl,trivial⟩ ?_))))
 refine Run.loopP (σ:=(Int×σ)) (λ s_ L_ w_=>L_=[(0,.func (.yield l_) #[] #[]),(1,v1),(2,v2),(4,.int .i64 s_.1)]∧St e w_ [(false,.ptr (Rep.slice (Rep.int .u8)) v1 a1),(false,.ptr (Rep.int .i64) v2 a2)] [(false,I_ s_.2)]) hF ⟨rfl,(h.facts (.atm .z (.atm (.s .z) .nil))).picks (.cons .z .nil)⟩ (λ k1 hk1 s1 _ w1 hI hF=>?_)
 obtain ⟨rfl,h1⟩:=hI
 refine Run.seq (sr (gm rfl (op (OpS.load h1 ty24 rfl rfl rfl .z (λ u1 h2=>?_)))))
 refine op (OpS.len h2 Tryz.underlying24 rfl rfl rfl (V.at .z) ?_)
 refine gb rfl (nil ?_)
 refine Run.ite rfl hF (λ e1 hF=>?_) (λ e1 hF=>?_)
 ·refine Run.skip (Run.seq (Run.block (Run.seq ?_)))
  obtain ⟨x1,e2,hF⟩:=bindP_use hF
  refine Run.drawV (Ωs:=[(false,I_ s1.2)]) [.k 13 (.int .i64 a2),.f 14 (λ u_=>[(false,.val (Rep.slice (Rep.int .u8)) u_ a1)]),.k 15 (.int .i64 s1.1),.f 16 (λ u_=>[(false,.val (Rep.slice (Rep.int .u8)) u_ x1)]),.k 17 (.int .i64 (x1.length:Int))] [[],[],[],[1,2],[3]] [] [0,1,2,3,4] Try_mixed rfl rfl rfl h2 (.cons ?_ (.cons ?_ (.cons ?_ (.cons ?_ (.cons ?_ .nil))))) (λ q1 w hq1 h=>?_)
  ·intro q1 w Γx Ωx h
   refine OpS.loadi h ty3 rfl rfl rfl (.s (.s .z)) ?_
   exact du h
  ·intro q1 w Γx Ωx h
   refine OpS.load h ty24 rfl rfl rfl (.s .z) (λ u h5=>?_)
   exact ⟨u,rfl,trivial,h5⟩
  ·intro q1 w Γx Ωx h
   refine OpS.mv rfl rfl rfl ?_
   exact du h
  ·intro q1 w Γx Ωx h
   refine OpS.sub h Tryz.underlying24 ty5 rfl rfl rfl rfl rfl (V.at .z) e2 (λ u h6=>?_)
   exact ⟨u,rfl,trivial,h6⟩
  ·intro q1 w Γx Ωx h
   refine OpS.len h Tryz.underlying24 rfl rfl rfl (V.at .z) ?_
   exact du h
  have h7:=h
  refine op (OpS.mini rfl rfl rfl rfl ?_)
  refine ga rfl ?_
  obtain ⟨x2,e3,hF⟩:=letP_use hF
  refine RunL.name e3 ?_
  refine nil (sr (gm rfl (op (OpS.load h7 ty24 rfl rfl rfl (.s (.s (.s .z))) (λ u2 h8=>?_)))))
  refine gm rfl (gm rfl (gm rfl (gb rfl (gm rfl (gm rfl (gb rfl ?_))))))
  obtain ⟨x3,e4,hF⟩:=bindP_use hF
  refine op (OpS.sub3F h8 Tryz.underlying24 ty5 rfl rfl rfl rfl rfl rfl (V.at .z) e4 (λ u3 h9=>?_))
  obtain ⟨y1,e5,hF⟩:=bindP_use hF
  refine op (OpS.yield (f:=false) h9 .z hY_ e5 rfl rfl rfl rfl (V.at .z) (λ w2 h10=>?_))
  refine op (OpS.not rfl rfl rfl ?_)
  refine nil (Run.condF rfl ?_)
  refine Run.skip (Run.endBlock (Run.reg (gm rfl (op (OpS.loadi h10 ty3 rfl rfl rfl (.s (.s (.s (.s (.s (.s (.s .z))))))) ?_)))))
  refine gb rfl (ga rfl ?_)
  obtain ⟨x4,e6,hF⟩:=letP_use hF
  refine RunL.name e6 ?_
  refine nil (Run.slim [(0,.func (.yield l_) #[] #[]),(1,v1),(2,v2),(4,.int .i64 x4)] ⟨rfl,rfl,rfl,rfl,trivial⟩ ?_)
  exact hk1 (x4,y1) _ _ ⟨rfl,(h10.facts (.atm (.s (.s (.s (.s (.s (.s .z)))))) (.atm (.s (.s (.s (.s (.s (.s (.s .z))))))) .nil))).picks (.cons .z .nil)⟩ hF
 refine Run.exit rfl ?_
 refine Run.finP rfl .nil ?_
 cases hF
 exact Post.mk' ⟨rfl,rfl,rfl,rfl⟩ (h2.picks (.cons .z .nil)) .nil
set_option maxHeartbeats 8000000 in set_option maxRecDepth 20000 in
theorem fragment_Split_ok {fuel:Nat} {a0:Int} {a1:Int} {a2:Bool} {a3:Int} {a4:Int} {a5:List Int} {y:(List Packet_)×Int} (hF:fragment_Split fuel a0 a1 a2 a3 a4 a5=some y) {w:World} {v5:Value} :
  Spec Tryz.prog 58 [.int .u8 a0,.int .u8 a1,.bool a2,.int .i64 a3,.int .i64 a4,v5].toArray w [(false,.val (Rep.slice (Rep.int .u8)) v5 a5)] [] (λ v Γr Ωr Ωo=>∃ u0:Value,v=.tuple #[u0,.int .i64 y.2]∧Γr=[]∧Ωr=[(false,(.slice 139 Packet_.rep u0 y.1))]∧Ωo=[]):=by
 refine Spec.of (L:=[(0,.int .u8 a0),(1,.int .u8 a1),(2,.bool a2),(3,.int .i64 a3),(4,.int .i64 a4),(5,v5)]) Tryz.func58 rfl ⟨rfl,rfl,rfl,rfl,rfl,rfl,trivial⟩ rfl (λ e h=>?_)
 unfold fragment_Split at hF
 refine sr (op (OpS.box (f':=true) h rfl rfl rfl V.int (λ u1 w1 h1=>?_)))
 refine op (OpS.box (f':=true) h1 rfl rfl rfl V.int (λ u2 w2 h2=>?_))
 refine op (OpS.box (f':=true) h2 rfl rfl rfl V.bool (λ u3 w3 h3=>?_))
 refine op (OpS.box (f':=true) h3 rfl rfl rfl V.int (λ u4 w4 h4=>?_))
 refine ga rfl (ga rfl (nil (Run.seq (Run.block (sr (op (OpS.loadBi h4 (.s (.s (.s .z))) PA.z Get.id ty5 rfl rfl rfl ?_)))))))
 obtain ⟨y1,e1,hF⟩:=bindP_use hF
 refine op (OpS.callP h4 Tryz.func122 rfl rfl rfl rfl (vs:=[.int .u8 a0]) rfl (fragment_endpoint_ok e1) .nil ?_)
 rintro _ w5 _ _ _ ⟨rfl,rfl,rfl,rfl⟩ h5
 have h6:=h5 rfl rfl
 simp only [ca,na] at h6
 refine op (OpS.not rfl rfl rfl ?_)
 refine gm rfl ?_
 refine RunL.join (σ:=Bool) (λ s_ L_ w_=>L_=[(4,.int .i64 a4),(5,v5),(6,u1),(7,u2),(8,u3),(9,u4),(16,.bool s_)]∧St e w_ [(false,.val (Rep.slice (Rep.int .u8)) v5 a5)] [(true,.box 5 (Rep.int .u8) u1 a0),(true,.box 5 (Rep.int .u8) u2 a1),(true,.box 4 Rep.bool u3 a2),(true,.box 3 (Rep.int .i64) u4 a3)]) hF (λ s1 _ w6 hI hF=>?_) (λ j1 hj1 hF=>?_)
 ·obtain ⟨rfl,h7⟩:=hI
  refine Run.ite rfl hF (λ e2 hF=>?_) (λ e2 hF=>?_)
  ·refine sr (ga rfl (ga rfl (nil ?_)))
   have h8:=St.nil 139 Packet_.rep h7
   have h9:=(h8.pick .z).weak
   refine Run.retP rfl (.tmp rfl (.tmp rfl .nil)) ?_
   cases hF
   exact Post.mk' ⟨(.slice none 0 0),rfl,rfl,rfl,rfl⟩ (h9.picks (.cons .z .nil)) .nil
  refine sr (op (OpS.loadBi h7 (.s (.s (.s .z))) PA.z Get.id ty3 rfl rfl rfl ?_))
  refine gb rfl (gm rfl ?_)
  refine RunL.join (σ:=Bool) (λ s_ L_ w_=>L_=[(4,.int .i64 a4),(5,v5),(6,u1),(7,u2),(8,u3),(9,u4),(25,.bool s_)]∧St e w_ [(false,.val (Rep.slice (Rep.int .u8)) v5 a5)] [(true,.box 5 (Rep.int .u8) u1 a0),(true,.box 5 (Rep.int .u8) u2 a1),(true,.box 4 Rep.bool u3 a2),(true,.box 3 (Rep.int .i64) u4 a3)]) hF (λ s2 _ w7 hI hF=>?_) (λ j2 hj2 hF=>?_)
  ·obtain ⟨rfl,h10⟩:=hI
   refine Run.ite rfl hF (λ e3 hF=>?_) (λ e3 hF=>?_)
   ·refine sr (ga rfl (ga rfl (nil ?_)))
    have h11:=St.nil 139 Packet_.rep h10
    have h12:=(h11.pick .z).weak
    refine Run.retP rfl (.tmp rfl (.tmp rfl .nil)) ?_
    cases hF
    exact Post.mk' ⟨(.slice none 0 0),rfl,rfl,rfl,rfl⟩ (h12.picks (.cons .z .nil)) .nil
   refine sr (gm rfl (op (OpS.len h10 Tryz.underlying24 rfl rfl rfl (V.at .z) ?_)))
   refine gb rfl (ga rfl ?_)
   obtain ⟨x1,e4,hF⟩:=letP_use hF
   refine RunL.nameb e4 ?_
   refine nil ?_
   refine Run.ite rfl hF (λ e5 hF=>?_) (λ e5 hF=>?_)
   ·refine sr (ga rfl (ga rfl (nil ?_)))
    have h13:=St.nil 139 Packet_.rep h10
    have h14:=(h13.pick .z).weak
    refine Run.retP rfl (.tmp rfl (.tmp rfl .nil)) ?_
    cases hF
    exact Post.mk' ⟨(.slice none 0 0),rfl,rfl,rfl,rfl⟩ (h14.picks (.cons .z .nil)) .nil
   refine sr (gm rfl (op (OpS.len h10 Tryz.underlying24 rfl rfl rfl (V.at .z) ?_)))
   refine gb rfl (ga rfl ?_)
   obtain ⟨x2,e6,hF⟩:=letP_use hF
   refine RunL.nameb e6 ?_
   refine nil ?_
   refine Run.ite rfl hF (λ e7 hF=>?_) (λ e7 hF=>?_)
   ·refine sr (ga rfl (ga rfl (nil ?_)))
    have h15:=St.nil 139 Packet_.rep h10
    have h16:=(h15.pick .z).weak
    refine Run.retP rfl (.tmp rfl (.tmp rfl .nil)) ?_
    cases hF
    exact Post.mk' ⟨(.slice none 0 0),rfl,rfl,rfl,rfl⟩ (h16.picks (.cons .z .nil)) .nil
   refine Run.skip (Run.endBlock (sr ?_))
   have h17:=St.nil 139 Packet_.rep h10
   refine op (OpS.alloc (r:=(Rep.raw (α:=List Packet_) (.slice none 0 0))) h17 ti134 (Zr.raw rfl ([]:List Packet_)) rfl rfl (λ u5 w8 h18=>?_))
   refine nil (Run.seq (sr (gm rfl (gm rfl ?_))))
   obtain ⟨y2,e8,hF⟩:=bindP_use hF
   have h19:=h18.front .nil
   refine op (OpS.callO h19 Tryz.func126 rfl rfl rfl rfl (vs:=[v5,.int .i64 a4]) rfl (slices_Chunk_byte_byte_ok e8) rfl (.cons (f:=false) (V.at .z) .nil) ?_)
   rintro _ w9 _ _ _ ⟨u6,u7,rfl,rfl,rfl,rfl⟩ h20
   have h21:=h20
   simp only [ca,na] at h21
   refine nil (Run.block ?_)
   have h22:=(h21.pick .z).freezeBox
   have h23:=(h22.pick .z).freezeBox
   have h24:=(h23.pick .z).weak
   have h25:=(h24.pick (.s .z)).weak
   have h26:=(h25.pick (.s (.s .z))).weak
   have h27:=(h26.pick (.s (.s (.s .z)))).weak
   have h28:=(h27.pick (.s (.s (.s (.s .z))))).weak
   have h29:=(h28.pick (.s (.s (.s (.s (.s .z)))))).weak
   refine Run.slim [(50,.func (.func 193) #[] #[u6,u7]),(14,u5),(6,u1),(7,u2),(8,u3),(9,u4)] ⟨rfl,rfl,rfl,rfl,rfl,rfl,trivial⟩ ?_
   obtain ⟨y3,e9,hF⟩:=bindP_use hF
   refine Run.rangeC (σ:=((List Packet_))) (r:=(Rep.slice (Rep.int .u8))) (λ s_ Γ_ Ω_=>∃ u0_:Value,Γ_=[]∧Ω_=[(false,.box 5 (Rep.int .u8) u1 a0),(false,.box 5 (Rep.int .u8) u2 a1),(false,.box 4 Rep.bool u3 a2),(false,.box 3 (Rep.int .i64) u4 a3),(false,.box 134 (Rep.raw (α:=List Packet_) u0_) u5 ([])),(false,.slice 139 Packet_.rep u0_ s_)]) (by rintro _ _ _ ⟨u0_,rfl,rfl⟩;exact ⟨rfl,rfl⟩) rfl rfl rfl Tryz.func193 rfl rfl rfl (λ l_ I_ hY_ w_=>slices_Chunk_byte_byte_1_2_ok e9 hY_) (.ptr (.s .z) (.ptr .z .nil)) (Ω0:=[(false,.box 5 (Rep.int .u8) u1 a0),(false,.box 5 (Rep.int .u8) u2 a1),(false,.box 4 Rep.bool u3 a2),(false,.box 3 (Rep.int .i64) u4 a3),(false,.box 134 (Rep.raw (α:=List Packet_) (.slice none 0 0)) u5 ([])),(false,.slice 139 Packet_.rep (.slice none 0 0) ([]))]) (Ω:=[]) (Γ0:=[]) (h29.picks (.cons (.s (.s (.s .z))) (.cons (.s (.s .z)) (.cons (.s .z) (.cons .z (.cons (.s .z) (.cons .z .nil))))))) ⟨(.slice none 0 0),rfl,rfl⟩ .nil ?_ ?_
   ·intro l_ q_ e w s3 s1_ x3 v1 Γ_ Ω_ hq_ hX_ hF h30
    obtain ⟨u8,rfl,rfl⟩:=hX_
    refine Run.reg (ga rfl (nil (Run.beginRound rfl (h30.pick .z) hq_ (λ w10 h31=>?_))))
    refine Run.block ?_
    have h32:=h31.picks (.cons (.s .z) (.cons (.s .z) (.cons (.s .z) (.cons (.s .z) (.cons (.s .z) (.cons (.s .z) (.cons .z .nil)))))))
    obtain ⟨y4,e10,hF⟩:=bindP_use hF
    refine Run.drawV (Ωs:=[(false,.loopR l_ ({ q_ with state:=.busy }))]) [.kr 52 u8 [4],.kr 53 (.int .u8 a0) [0],.kr 54 (.int .u8 a1) [1],.kr 55 u8 [4],.kr 56 (.int .i64 (s3.length:Int)) [5],.k 57 (.int .i64 (Int.tmod (s3.length:Int) 4)),.kr 58 (.bool a2) [2],.kr 59 (.int .i64 a3) [3],.k 60 v1,.f 61 (λ u_=>[(true,.val (Rep.slice (Rep.int .u8)) u_ y4)]),.f 62 (λ u_=>[(true,.val Packet_.rep u_ (⟨a0,a1,false,false,(Int.tmod (s3.length:Int) 4),a2,a3,y4⟩:Packet_))]),.f 63 (λ u_=>[(true,.val (Rep.slice Packet_.rep) u_ ([(⟨a0,a1,false,false,(Int.tmod (s3.length:Int) 4),a2,a3,y4⟩:Packet_)]))])] [[],[],[],[],[3],[4],[],[],[],[8],[1,2,5,6,7,9],[10]] [[(false,.box 5 (Rep.int .u8) u1 a0)],[(false,.box 5 (Rep.int .u8) u2 a1)],[(false,.box 4 Rep.bool u3 a2)],[(false,.box 3 (Rep.int .i64) u4 a3)],[(false,.box 134 (Rep.raw (α:=List Packet_) u8) u5 ([]))],[(false,.slice 139 Packet_.rep u8 s3)]] [0,1,2,3,4,5,6,7,8,9,10,11,12,13,14,15,16,17] Try_mixed rfl rfl rfl h32 (.cons ?_ (.cons ?_ (.cons ?_ (.cons ?_ (.cons ?_ (.cons ?_ (.cons ?_ (.cons ?_ (.cons ?_ (.cons ?_ (.cons ?_ (.cons ?_ .nil)))))))))))) (λ q1 w hq1 h=>?_)
    ·intro q1 w Γx Ωx h
     refine OpS.loadR h .z PA.z (GetS.ok GetS.id) ty134 rfl rfl rfl rfl rfl ?_
     exact du h
    ·intro q1 w Γx Ωx h
     refine OpS.loadBi h .z PA.z Get.id ty5 rfl rfl rfl ?_
     exact du h
    ·intro q1 w Γx Ωx h
     refine OpS.loadBi h .z PA.z Get.id ty5 rfl rfl rfl ?_
     exact du h
    ·intro q1 w Γx Ωx h
     refine OpS.loadR h .z PA.z (GetS.ok GetS.id) ty134 rfl rfl rfl rfl rfl ?_
     exact du h
    ·intro q1 w Γx Ωx h
     refine OpS.lenO h .z Tryz.underlying134 rfl rfl rfl ?_
     exact du h
    ·intro q1 w Γx Ωx h
     refine OpS.rem rfl rfl rfl rfl (by decide) ?_
     exact du h
    ·intro q1 w Γx Ωx h
     refine OpS.loadBb h .z PA.z Get.id ty4 rfl rfl rfl ?_
     exact du h
    ·intro q1 w Γx Ωx h
     refine OpS.loadBi h .z PA.z Get.id ty3 rfl rfl rfl ?_
     exact du h
    ·intro q1 w Γx Ωx h
     refine OpS.mv rfl rfl rfl ?_
     exact du h
    ·intro q1 w Γx Ωx h
     refine OpS.callP h Tryz.func113 rfl rfl rfl rfl (vs:=[v1]) rfl (slices_Clone_byte_byte_ok e10) (.cons (f:=false) (V.at .z) .nil) ?_
     rintro u w13 _ _ _ ⟨_,rfl,rfl,rfl,rfl⟩ h38
     have h39:=h38 rfl rfl
     simp only [ca,na] at h39
     have h40:=h39.freeze
     exact ⟨u,rfl,trivial,h40⟩
    ·intro q1 w Γx Ωx h
     refine OpS.build (f:=true) (x':=(⟨a0,a1,false,false,(Int.tmod (s3.length:Int) 4),a2,a3,y4⟩:Packet_)) h pl139 ti139 Packet_.zr rfl rfl rfl (.cons rfl Packet_.f0 rfl V.int (.cons rfl Packet_.f1 rfl V.int (.cons rfl Packet_.f4 rfl V.int (.cons rfl Packet_.f5 rfl V.bool (.cons rfl Packet_.f6 rfl V.int (.cons rfl Packet_.f7 rfl (V.at .z) .nil)))))) (λ u h41=>?_)
     exact ⟨u,rfl,trivial,h41⟩
    ·intro q1 w Γx Ωx h
     refine OpS.lit (r:=Packet_.rep) (f:=true) h Tryz.underlying134 ti139 rfl rfl rfl rfl rfl (.cons rfl (V.at .z) .nil) rfl rfl (λ u w14 h42=>?_)
     exact ⟨u,rfl,trivial,h42⟩
    have h43:=h
    obtain ⟨x4,e11,hF⟩:=bindP_use hF
    refine op (OpS.app (f':=true) h43 (.s (.s (.s (.s (.s .z))))) Tryz.underlying134 ti139 rfl rfl rfl rfl rfl rfl rfl (V.at (.s (.s .z))) (.inl (.inl rfl)) e11 (λ u9 w15 h44=>?_))
    refine op (OpS.storeC (f':=false) (fr:=(Rep.raw u9)) (r':=(Rep.raw (α:=List Packet_) u9)) (x':=[]) h44 (.s (.s (.s (.s (.s .z))))) PA.z (Chg.id (by rfl)) (Ty.like ty134 (by rfl) (by rfl)) rfl rfl rfl (V.raw (f:=false) (St.own1 h44 .z) ([])) (.inr rfl) (λ w16 h45=>?_))
    refine nil (Run.endBlock (Run.finR rfl ?_))
    cases hF
    exact ⟨_,_,⟨u9,rfl,rfl⟩,(h45.facts .nil).picks (.cons (.s (.s (.s (.s (.s (.s .z)))))) (.cons (.s (.s .z)) (.cons (.s (.s .z)) (.cons (.s (.s .z)) (.cons (.s (.s .z)) (.cons .z (.cons .z .nil)))))))⟩
   intro D_ w Γ_ Ω_ hX_ h46
   obtain ⟨u10,rfl,rfl⟩:=hX_
   simp only [ca,na] at h46
   refine Run.slim [(14,u5)] ⟨rfl,trivial⟩ ?_
   refine Run.endBlock (Run.seq ?_)
   have h47:=St.lenF h46 (.s (.s (.s (.s (.s .z)))))
   have h48:=h47.picks (.cons (.s (.s (.s (.s .z)))) (.cons (.s (.s (.s (.s .z)))) (.cons .z (.cons .z (.cons .z (.cons .z (.cons .z .nil)))))))
   obtain ⟨x5,e12,hF⟩:=bindP_use hF
   obtain ⟨d1,e13,hF⟩:=letP_use hF
   refine Run.drawV (Ωs:=[(false,.box 5 (Rep.int .u8) u1 a0),(false,.box 5 (Rep.int .u8) u2 a1),(false,.box 4 Rep.bool u3 a2),(false,.box 3 (Rep.int .i64) u4 a3),(true,.dfr D_)]) [.kr 65 u10 [0],.kr 66 u10 [0],.kr 67 u10 [0],.k 68 (.int .i64 (y3.length:Int)),.k 69 (.int .i64 (IntKind.i64.wrap ((y3.length:Int)-1))),⟨some 70,some ((padd (sp u10) ((0:Int).toNat*Packet_.rep.n))),λ _=>[],λ ds_ u_=>[],[],[(1,[7,6,5])],none⟩,⟨some 71,some ((padd (sp u10) ((0:Int).toNat*Packet_.rep.n+2))),λ _=>[],λ ds_ u_=>[],[],[(1,[7,6])],none⟩,⟨none,some undef,λ _=>[],λ ds_ u_=>[(false,.slice 139 Packet_.rep u10 d1)],[1],[],none⟩] [[],[],[],[2],[3],[0],[5],[6]] [[(false,.box 134 (Rep.raw (α:=List Packet_) u10) u5 ([]))],[(false,.slice 139 Packet_.rep u10 y3)]] [0,2,3,4,5,6,7,8,9] Try_mixed rfl rfl rfl h48 (.cons ?_ (.cons ?_ (.cons ?_ (.cons ?_ (.cons ?_ (.cons ?_ (.cons ?_ (.cons ?_ .nil)))))))) (λ q2 w hq2 h=>?_)
   ·intro q2 w Γx Ωx h
    refine OpS.loadR h .z PA.z (GetS.ok GetS.id) ty134 rfl rfl rfl rfl rfl ?_
    exact du h
   ·intro q2 w Γx Ωx h
    refine OpS.loadR h .z PA.z (GetS.ok GetS.id) ty134 rfl rfl rfl rfl rfl ?_
    exact du h
   ·intro q2 w Γx Ωx h
    refine OpS.loadR h .z PA.z (GetS.ok GetS.id) ty134 rfl rfl rfl rfl rfl ?_
    exact du h
   ·intro q2 w Γx Ωx h
    refine OpS.lenH h Tryz.underlying134 rfl rfl rfl (V.at .z) ?_
    exact du h
   ·intro q2 w Γx Ωx h
    refine OpS.bin rfl rfl rfl rfl rfl ?_
    exact du h
   ·intro q2 w Γx Ωx h
    refine OpS.iown h .z Tryz.underlying134 ty139 rfl rfl rfl rfl e12 ?_
    exact du h
   ·intro q2 w Γx Ωx h
    refine OpS.fown h .z (idx_ne e12) PA.a fa139_2 rfl rfl rfl ?_
    exact du h
   ·intro q2 w Γx Ωx h
    refine OpS.storeO (f':=true) h .z (idx_ne e12) PA.a (Put.of (Put.comp (Get.arr e12) (Put.fld Packet_.f2) (Put.arr e12)) e13) ty4 rfl rfl rfl V.bool (.inr rfl) (λ w18 h50=>?_)
    exact ⟨undef,trivial,trivial,h50⟩
   have h51:=h
   obtain ⟨x6,e14,hF⟩:=bindP_use hF
   refine op (OpS.iown h51 (.s .z) Tryz.underlying134 ty139 rfl rfl rfl rfl e14 ?_)
   refine op (OpS.fown h51 (.s .z) (idx_ne e14) PA.a fa139_3 rfl rfl rfl ?_)
   obtain ⟨d2,e15,hF⟩:=letP_use hF
   refine op (OpS.storeO (f':=true) h51 (.s .z) (idx_ne e14) PA.a (Put.of (Put.comp (Get.arr e14) (Put.fld Packet_.f3) (Put.arr e14)) e15) ty4 rfl rfl rfl V.bool (.inr rfl) (λ w19 h52=>?_))
   refine nil (sr (op (OpS.loadR h52 (.s .z) PA.z (GetS.ok GetS.id) ty134 rfl rfl rfl rfl rfl ?_)))
   refine ga rfl (ga rfl (nil (Run.retPD h52 (.s (.s (.s (.s (.s (.s .z)))))) rfl (λ w20 h53=>?_))))
   refine ⟨_,(.tmp rfl (.tmp rfl .nil)),?_⟩
   cases hF
   exact Post.mk' ⟨u10,rfl,rfl,rfl,rfl⟩ (h53.picks (.cons .z .nil)) .nil
  refine RunL.caseb hF (λ e16 hF=>?_) (λ e16 hF=>?_)
  ·refine gp rfl (gp rfl (gk rfl (gm rfl (gp rfl (gp rfl (gk rfl (gm rfl (gp rfl (gp rfl (gk rfl (ga rfl (nil (Run.slim [(4,.int .i64 a4),(5,v5),(6,u1),(7,u2),(8,u3),(9,u4),(25,.bool true)] ⟨rfl,rfl,rfl,rfl,rfl,rfl,rfl,trivial⟩ ?_)))))))))))))
   exact hj2 (true) _ _ ⟨rfl,(h7.facts (.atm .z .nil)).picks (.cons .z (.cons .z (.cons .z (.cons .z .nil))))⟩ hF
  refine op (OpS.loadBi h7 (.s (.s (.s .z))) PA.z Get.id ty3 rfl rfl rfl ?_)
  refine gb rfl (gk rfl (gm rfl ?_))
  refine RunL.caseb hF (λ e17 hF=>?_) (λ e17 hF=>?_)
  ·refine gp rfl (gp rfl (gk rfl (gm rfl (gp rfl (gp rfl (gk rfl (ga rfl (nil (Run.slim [(4,.int .i64 a4),(5,v5),(6,u1),(7,u2),(8,u3),(9,u4),(25,.bool true)] ⟨rfl,rfl,rfl,rfl,rfl,rfl,rfl,trivial⟩ ?_)))))))))
   exact hj2 (true) _ _ ⟨rfl,(h7.facts (.atm .z .nil)).picks (.cons .z (.cons .z (.cons .z (.cons .z .nil))))⟩ hF
  refine gm rfl (gb rfl (gk rfl (gm rfl ?_)))
  refine RunL.caseb hF (λ e18 hF=>?_) (λ e18 hF=>?_)
  ·refine gp rfl (gp rfl (gk rfl (ga rfl (nil (Run.slim [(4,.int .i64 a4),(5,v5),(6,u1),(7,u2),(8,u3),(9,u4),(25,.bool true)] ⟨rfl,rfl,rfl,rfl,rfl,rfl,rfl,trivial⟩ ?_)))))
   exact hj2 (true) _ _ ⟨rfl,(h7.facts (.atm .z .nil)).picks (.cons .z (.cons .z (.cons .z (.cons .z .nil))))⟩ hF
  refine gm rfl (gb rfl (gk rfl (ga rfl ?_)))
  obtain ⟨x7,e19,hF⟩:=letP_use hF
  refine RunL.nameb e19 ?_
  refine nil (Run.slim [(4,.int .i64 a4),(5,v5),(6,u1),(7,u2),(8,u3),(9,u4),(25,.bool x7)] ⟨rfl,rfl,rfl,rfl,rfl,rfl,rfl,trivial⟩ ?_)
  exact hj2 (x7) _ _ ⟨rfl,(h7.facts (.atm .z .nil)).picks (.cons .z (.cons .z (.cons .z (.cons .z .nil))))⟩ hF
 refine RunL.caseb hF (λ e20 hF=>?_) (λ e20 hF=>?_)
 ·refine gp rfl (gp rfl (gp rfl (gk rfl (ga rfl (nil (Run.slim [(4,.int .i64 a4),(5,v5),(6,u1),(7,u2),(8,u3),(9,u4),(16,.bool true)] ⟨rfl,rfl,rfl,rfl,rfl,rfl,rfl,trivial⟩ ?_))))))
  exact hj1 (true) _ _ ⟨rfl,(h6.facts (.atm .z .nil)).picks (.cons (.s (.s (.s .z))) (.cons (.s (.s .z)) (.cons (.s .z) (.cons .z .nil))))⟩ hF
 refine op (OpS.loadBi h6 (.s (.s .z)) PA.z Get.id ty5 rfl rfl rfl ?_)
 obtain ⟨y5,e21,hF⟩:=bindP_use hF
 refine op (OpS.callP h6 Tryz.func122 rfl rfl rfl rfl (vs:=[.int .u8 a1]) rfl (fragment_endpoint_ok e21) .nil ?_)
 rintro _ w21 _ _ _ ⟨rfl,rfl,rfl,rfl⟩ h54
 have h55:=h54 rfl rfl
 simp only [ca,na] at h55
 refine op (OpS.not rfl rfl rfl ?_)
 refine gk rfl (ga rfl ?_)
 obtain ⟨x8,e22,hF⟩:=letP_use hF
 refine RunL.nameb e22 ?_
 refine nil (Run.slim [(4,.int .i64 a4),(5,v5),(6,u1),(7,u2),(8,u3),(9,u4),(16,.bool x8)] ⟨rfl,rfl,rfl,rfl,rfl,rfl,rfl,trivial⟩ ?_)
 exact hj1 (x8) _ _ ⟨rfl,(h55.facts (.atm .z .nil)).picks (.cons (.s (.s (.s .z))) (.cons (.s (.s .z)) (.cons (.s .z) (.cons .z .nil))))⟩ hF
theorem fragment_Valid_ok {fuel:Nat} {a0:Packet_} {y:Bool} (hF:fragment_Valid fuel a0=some y) {w:World} {v0:Value} :
  Spec Tryz.prog 127 [v0].toArray w [(false,.val Packet_.rep v0 a0)] [] (λ v Γr Ωr Ωo=>v=.bool y∧Γr=[]∧Ωr=[]∧Ωo=[]):=by
 refine Spec.of (L:=[(0,v0)]) Tryz.func127 rfl ⟨rfl,trivial⟩ rfl (λ e h=>?_)
 unfold fragment_Valid at hF
 refine sr (op (OpS.boxF h rfl rfl rfl (V.at .z) (λ u1 w1 h1=>?_)))
 refine ga rfl (nil (sr (op (OpS.fbox (o3:=0) h1 .z PA.z fa139_0 rfl rfl rfl rfl ?_))))
 refine op (OpS.loadBi h1 .z PA.a (Get.fld Packet_.f0) ty5 rfl rfl rfl ?_)
 obtain ⟨y1,e1,hF⟩:=bindP_use hF
 refine op (OpS.callP h1 Tryz.func122 rfl rfl rfl rfl (vs:=[.int .u8 a0.To]) rfl (fragment_endpoint_ok e1) .nil ?_)
 rintro _ w2 _ _ _ ⟨rfl,rfl,rfl,rfl⟩ h2
 have h3:=h2 rfl rfl
 simp only [ca,na] at h3
 refine gm rfl ?_
 refine RunL.caseb hF (λ e2 hF=>?_) (λ e2 hF=>?_)
 ·refine op (OpS.fbox (o3:=1) h3 .z PA.z fa139_1 rfl rfl rfl rfl ?_)
  refine op (OpS.loadBi h3 .z PA.a (Get.fld Packet_.f1) ty5 rfl rfl rfl ?_)
  obtain ⟨y2,e3,hF⟩:=bindP_use hF
  refine op (OpS.callP h3 Tryz.func122 rfl rfl rfl rfl (vs:=[.int .u8 a0.From]) rfl (fragment_endpoint_ok e3) .nil ?_)
  rintro _ w3 _ _ _ ⟨rfl,rfl,rfl,rfl⟩ h4
  have h5:=h4 rfl rfl
  simp only [ca,na] at h5
  refine gk rfl (gm rfl ?_)
  refine RunL.caseb hF (λ e4 hF=>?_) (λ e4 hF=>?_)
  ·refine op (OpS.fbox (o3:=4) h5 .z PA.z fa139_4 rfl rfl rfl rfl ?_)
   refine op (OpS.loadBi h5 .z PA.a (Get.fld Packet_.f4) ty3 rfl rfl rfl ?_)
   refine gb rfl (gk rfl (gm rfl ?_))
   refine RunL.caseb hF (λ e5 hF=>?_) (λ e5 hF=>?_)
   ·refine op (OpS.fbox (o3:=4) h5 .z PA.z fa139_4 rfl rfl rfl rfl ?_)
    refine op (OpS.loadBi h5 .z PA.a (Get.fld Packet_.f4) ty3 rfl rfl rfl ?_)
    refine gb rfl (gk rfl (gm rfl ?_))
    refine RunL.caseb hF (λ e6 hF=>?_) (λ e6 hF=>?_)
    ·refine op (OpS.fbox (o3:=6) h5 .z PA.z fa139_6 rfl rfl rfl rfl ?_)
     refine op (OpS.loadBi h5 .z PA.a (Get.fld Packet_.f6) ty3 rfl rfl rfl ?_)
     refine gb rfl (gk rfl (gm rfl ?_))
     refine RunL.caseb hF (λ e7 hF=>?_) (λ e7 hF=>?_)
     ·refine op (OpS.fbox (o3:=6) h5 .z PA.z fa139_6 rfl rfl rfl rfl ?_)
      refine op (OpS.loadBi h5 .z PA.a (Get.fld Packet_.f6) ty3 rfl rfl rfl ?_)
      refine gb rfl (gk rfl (gm rfl ?_))
      refine RunL.caseb hF (λ e8 hF=>?_) (λ e8 hF=>?_)
      ·refine op (OpS.fbox (o3:=7) h5 .z PA.z fa139_7 rfl rfl rfl rfl ?_)
       refine op (OpS.loadB h5 .z PA.a (Get.fld Packet_.f7) ty24 rfl rfl rfl (λ u2 h6=>?_))
       refine op (OpS.len h6 Tryz.underlying24 rfl rfl rfl (V.at .z) ?_)
       refine gb rfl (gk rfl (gm rfl ?_))
       refine RunL.caseb hF (λ e9 hF=>?_) (λ e9 hF=>?_)
       ·refine op (OpS.fbox (o3:=7) h6 .z PA.z fa139_7 rfl rfl rfl rfl ?_)
        refine op (OpS.loadB h6 .z PA.a (Get.fld Packet_.f7) ty24 rfl rfl rfl (λ u3 h7=>?_))
        refine op (OpS.len h7 Tryz.underlying24 rfl rfl rfl (V.at .z) ?_)
        refine gb rfl (gk rfl (ga rfl ?_))
        obtain ⟨x1,e10,hF⟩:=letP_use hF
        refine RunL.nameb e10 ?_
        refine nil (Run.slim [(2,.bool x1)] ⟨rfl,trivial⟩ ?_)
        refine Run.retP rfl (.tmp rfl .nil) ?_
        cases hF
        exact Post.mk' ⟨rfl,rfl,rfl,rfl⟩ (h7.picks .nil) .nil
       refine gp rfl (gp rfl (gp rfl (gp rfl (gk rfl (ga rfl (nil (Run.slim [(2,.bool false)] ⟨rfl,trivial⟩ ?_)))))))
       refine Run.retP rfl (.tmp rfl .nil) ?_
       cases hF
       exact Post.mk' ⟨rfl,rfl,rfl,rfl⟩ (h6.picks .nil) .nil
      refine gp rfl (gp rfl (gp rfl (gp rfl (gk rfl (gm rfl (gp rfl (gp rfl (gp rfl (gp rfl (gk rfl (ga rfl (nil (Run.slim [(2,.bool false)] ⟨rfl,trivial⟩ ?_)))))))))))))
      refine Run.retP rfl (.tmp rfl .nil) ?_
      cases hF
      exact Post.mk' ⟨rfl,rfl,rfl,rfl⟩ (h5.picks .nil) .nil
     refine gp rfl (gp rfl (gp rfl (gk rfl (gm rfl (gp rfl (gp rfl (gp rfl (gp rfl (gk rfl (gm rfl (gp rfl (gp rfl (gp rfl (gp rfl (gk rfl (ga rfl ?_))))))))))))))))
     refine nil (Run.slim [(2,.bool false)] ⟨rfl,trivial⟩ ?_)
     refine Run.retP rfl (.tmp rfl .nil) ?_
     cases hF
     exact Post.mk' ⟨rfl,rfl,rfl,rfl⟩ (h5.picks .nil) .nil
    refine gp rfl (gp rfl (gp rfl (gk rfl (gm rfl (gp rfl (gp rfl (gp rfl (gk rfl (gm rfl (gp rfl (gp rfl (gp rfl (gp rfl (gk rfl (gm rfl (gp rfl ?_))))))))))))))))
    refine gp rfl (gp rfl (gp rfl (gk rfl (ga rfl (nil (Run.slim [(2,.bool false)] ⟨rfl,trivial⟩ ?_))))))
    refine Run.retP rfl (.tmp rfl .nil) ?_
    cases hF
    exact Post.mk' ⟨rfl,rfl,rfl,rfl⟩ (h5.picks .nil) .nil
   refine gp rfl (gp rfl (gp rfl (gk rfl (gm rfl (gp rfl (gp rfl (gp rfl (gk rfl (gm rfl (gp rfl (gp rfl (gp rfl (gk rfl (gm rfl (gp rfl (gp rfl ?_))))))))))))))))
   refine gp rfl (gp rfl (gk rfl (gm rfl (gp rfl (gp rfl (gp rfl (gp rfl (gk rfl (ga rfl (nil (Run.slim [(2,.bool false)] ⟨rfl,trivial⟩ ?_)))))))))))
   refine Run.retP rfl (.tmp rfl .nil) ?_
   cases hF
   exact Post.mk' ⟨rfl,rfl,rfl,rfl⟩ (h5.picks .nil) .nil
  refine gp rfl (gp rfl (gp rfl (gk rfl (gm rfl (gp rfl (gp rfl (gp rfl (gk rfl (gm rfl (gp rfl (gp rfl (gp rfl (gk rfl (gm rfl (gp rfl (gp rfl ?_))))))))))))))))
  refine gp rfl (gk rfl (gm rfl (gp rfl (gp rfl (gp rfl (gp rfl (gk rfl (gm rfl (gp rfl (gp rfl (gp rfl (gp rfl (gk rfl (ga rfl (nil (Run.slim [(2,.bool false)] ⟨rfl,trivial⟩ ?_))))))))))))))))
  refine Run.retP rfl (.tmp rfl .nil) ?_
  cases hF
  exact Post.mk' ⟨rfl,rfl,rfl,rfl⟩ (h5.picks .nil) .nil
 refine gp rfl (gp rfl (gp rfl (gk rfl (gm rfl (gp rfl (gp rfl (gp rfl (gk rfl (gm rfl (gp rfl (gp rfl (gp rfl (gk rfl (gm rfl (gp rfl (gp rfl ?_))))))))))))))))
 refine gp rfl (gk rfl (gm rfl (gp rfl (gp rfl (gp rfl (gk rfl (gm rfl (gp rfl (gp rfl (gp rfl (gp rfl (gk rfl (gm rfl (gp rfl (gp rfl (gp rfl ?_))))))))))))))))
 refine gp rfl (gk rfl (ga rfl (nil (Run.slim [(2,.bool false)] ⟨rfl,trivial⟩ ?_))))
 refine Run.retP rfl (.tmp rfl .nil) ?_
 cases hF
 exact Post.mk' ⟨rfl,rfl,rfl,rfl⟩ (h3.picks .nil) .nil
theorem fragment_Encode_ok {fuel:Nat} {a0:Packet_} {y:(List Int)×Int} (hF:fragment_Encode fuel a0=some y) {w:World} {v0:Value} :
  Spec Tryz.prog 59 [v0].toArray w [(false,.val Packet_.rep v0 a0)] [] (λ v Γr Ωr Ωo=>∃ u0:Value,v=.tuple #[u0,.int .i64 y.2]∧Γr=[]∧Ωr=[(true,(.slice 5 (Rep.int .u8) u0 y.1))]∧Ωo=[]):=by
 refine Spec.of (L:=[(0,v0)]) Tryz.func59 rfl ⟨rfl,trivial⟩ rfl (λ e h=>?_)
 unfold fragment_Encode at hF
 refine sr (op (OpS.boxF h rfl rfl rfl (V.at .z) (λ u1 w1 h1=>?_)))
 refine ga rfl (ga rfl (nil (Run.seq (sr (op (OpS.loadB h1 .z PA.z Get.id ty139 rfl rfl rfl (λ u2 h2=>?_)))))))
 obtain ⟨y1,e1,hF⟩:=bindP_use hF
 refine op (OpS.callP h2 Tryz.func127 rfl rfl rfl rfl (vs:=[u2]) rfl (fragment_Valid_ok e1) (.cons (f:=false) (V.at .z) .nil) ?_)
 rintro _ w2 _ _ _ ⟨rfl,rfl,rfl,rfl⟩ h3
 have h4:=h3 rfl rfl
 simp only [ca,na] at h4
 refine op (OpS.not rfl rfl rfl ?_)
 refine nil ?_
 refine Run.ite rfl hF (λ e2 hF=>?_) (λ e2 hF=>?_)
 ·refine sr (ga rfl (ga rfl (nil ?_)))
  have h5:=St.nil 5 (Rep.int .u8) h4
  refine Run.retP rfl (.tmp rfl (.tmp rfl .nil)) ?_
  cases hF
  exact Post.mk' ⟨(.slice none 0 0),rfl,rfl,rfl,rfl⟩ (h5.picks (.cons .z .nil)) .nil
 refine Run.skip (sr (op (OpS.fbox (o3:=4) h4 .z PA.z fa139_4 rfl rfl rfl rfl ?_)))
 refine op (OpS.loadBi h4 .z PA.a (Get.fld Packet_.f4) ty3 rfl rfl rfl ?_)
 refine gb rfl (op (OpS.fbox (o3:=6) h4 .z PA.z fa139_6 rfl rfl rfl rfl ?_))
 refine op (OpS.loadBi h4 .z PA.a (Get.fld Packet_.f6) ty3 rfl rfl rfl ?_)
 refine gb rfl (op (OpS.conv Tryz.underlying3 Tryz.underlying5 rfl rfl rfl ?_))
 refine ga rfl ?_
 obtain ⟨x1,e3,hF⟩:=letP_use hF
 refine RunL.name e3 ?_
 refine nil (Run.seq (sr (op (OpS.fbox (o3:=2) h4 .z PA.z fa139_2 rfl rfl rfl rfl ?_))))
 refine op (OpS.loadBb h4 .z PA.a (Get.fld Packet_.f2) ty4 rfl rfl rfl ?_)
 refine op (OpS.build (f:=true) (x':=(⟨a0.Start,128⟩:Anon_af38c4)) h4 pl252 ti252 Anon_af38c4.zr rfl rfl rfl (.cons rfl Anon_af38c4.f0 rfl V.bool (.cons rfl Anon_af38c4.f1 rfl V.int .nil)) (λ u3 h6=>?_))
 refine op (OpS.fbox (o3:=3) h6 .z PA.z fa139_3 rfl rfl rfl rfl ?_)
 refine op (OpS.loadBb h6 .z PA.a (Get.fld Packet_.f3) ty4 rfl rfl rfl ?_)
 refine op (OpS.build (f:=true) (x':=(⟨a0.End,64⟩:Anon_af38c4)) h6 pl252 ti252 Anon_af38c4.zr rfl rfl rfl (.cons rfl Anon_af38c4.f0 rfl V.bool (.cons rfl Anon_af38c4.f1 rfl V.int .nil)) (λ u4 h7=>?_))
 refine op (OpS.fbox (o3:=5) h7 .z PA.z fa139_5 rfl rfl rfl rfl ?_)
 refine op (OpS.loadBb h7 .z PA.a (Get.fld Packet_.f5) ty4 rfl rfl rfl ?_)
 refine op (OpS.build (f:=true) (x':=(⟨a0.Owner,8⟩:Anon_af38c4)) h7 pl252 ti252 Anon_af38c4.zr rfl rfl rfl (.cons rfl Anon_af38c4.f0 rfl V.bool (.cons rfl Anon_af38c4.f1 rfl V.int .nil)) (λ u5 h8=>?_))
 refine op (OpS.lit (r:=Anon_af38c4.rep) (f:=true) h8 Tryz.underlying253 ti252 rfl rfl rfl rfl rfl (.cons rfl (V.at (.s (.s .z))) (.cons rfl (V.at (.s .z)) (.cons rfl (V.at .z) .nil))) rfl rfl (λ u6 w3 h9=>?_))
 refine op (OpS.len h9 Tryz.underlying253 rfl rfl rfl (V.at .z) ?_)
 refine gm rfl (nil (Run.block (Run.slim [(1,u1),(4,.int .u8 x1),(26,u6),(27,.int .i64 (([(⟨a0.Start,128⟩:Anon_af38c4),(⟨a0.End,64⟩:Anon_af38c4),(⟨a0.Owner,8⟩:Anon_af38c4)]).length:Int)),(28,.int .i64 0)] ⟨rfl,rfl,rfl,rfl,rfl,trivial⟩ ?_)))
 refine Run.loopP (σ:=(Int×Int)) (λ s_ L_ w_=>L_=[(1,u1),(4,.int .u8 s_.1),(26,u6),(27,.int .i64 (([(⟨a0.Start,128⟩:Anon_af38c4),(⟨a0.End,64⟩:Anon_af38c4),(⟨a0.Owner,8⟩:Anon_af38c4)]).length:Int)),(28,.int .i64 s_.2)]∧St e w_ [(true,.val (Rep.slice Anon_af38c4.rep) u6 ([(⟨a0.Start,128⟩:Anon_af38c4),(⟨a0.End,64⟩:Anon_af38c4),(⟨a0.Owner,8⟩:Anon_af38c4)]))] [(false,.box 139 Packet_.rep u1 a0)]) hF ⟨rfl,(h9.facts (.atm .z .nil)).picks (.cons .z .nil)⟩ (λ k1 hk1 s1 _ w4 hI hF=>?_)
 obtain ⟨rfl,h10⟩:=hI
 refine sr (gb rfl (nil (Run.seq ?_)))
 refine Run.ite rfl hF (λ e4 hF=>?_) (λ e4 hF=>?_)
 ·refine Run.skip (Run.seq (Run.block (sr ?_)))
  obtain ⟨x2,e5,hF⟩:=bindP_use hF
  refine op (OpS.iptr h10 Tryz.underlying253 ty252 rfl rfl rfl rfl (V.at .z) e5 (λ u7 h11=>?_))
  refine op (OpS.load h11 ty252 rfl rfl rfl .z (λ u8 h12=>?_))
  refine op (OpS.alloc h12 ti252 Anon_af38c4.zr rfl rfl (λ u9 w5 h13=>?_))
  refine op (OpS.storeB (f':=true) h13 .z PA.z Put.id ty252 rfl rfl rfl (V.at .z) (.inl rfl) (λ w6 h14=>?_))
  refine nil (sr (op (OpS.fbox (o3:=0) h14 .z PA.z fa252_0 rfl rfl rfl rfl ?_)))
  refine op (OpS.loadBb h14 .z PA.a (Get.fld Anon_af38c4.f0) ty4 rfl rfl rfl ?_)
  refine nil ?_
  refine Run.ite rfl hF (λ e6 hF=>?_) (λ e6 hF=>?_)
  ·refine Run.reg (gm rfl (op (OpS.fbox (o3:=1) h14 .z PA.z fa252_1 rfl rfl rfl rfl ?_)))
   refine op (OpS.loadBi h14 .z PA.a (Get.fld Anon_af38c4.f1) ty5 rfl rfl rfl ?_)
   refine gb rfl (ga rfl (nil (Run.endBlock (Run.reg (gb rfl (gm rfl (nil (Run.slim [(1,u1),(4,.int .u8 (bOr .u8 s1.1 x2.bit)),(26,u6),(27,.int .i64 (([(⟨a0.Start,128⟩:Anon_af38c4),(⟨a0.End,64⟩:Anon_af38c4),(⟨a0.Owner,8⟩:Anon_af38c4)]).length:Int)),(28,.int .i64 (IntKind.i64.wrap (s1.2+1)))] ⟨rfl,rfl,rfl,rfl,rfl,trivial⟩ ?_))))))))
   exact hk1 ((bOr .u8 s1.1 x2.bit),(IntKind.i64.wrap (s1.2+1))) _ _ ⟨rfl,(h14.facts (.atm (.s (.s .z)) .nil)).picks (.cons (.s .z) .nil)⟩ hF
  refine Run.skip (Run.endBlock (Run.reg (gb rfl (gm rfl (nil (Run.slim [(1,u1),(4,.int .u8 s1.1),(26,u6),(27,.int .i64 (([(⟨a0.Start,128⟩:Anon_af38c4),(⟨a0.End,64⟩:Anon_af38c4),(⟨a0.Owner,8⟩:Anon_af38c4)]).length:Int)),(28,.int .i64 (IntKind.i64.wrap (s1.2+1)))] ⟨rfl,rfl,rfl,rfl,rfl,trivial⟩ ?_))))))
  exact hk1 (s1.1,(IntKind.i64.wrap (s1.2+1))) _ _ ⟨rfl,(h14.facts (.atm (.s (.s .z)) .nil)).picks (.cons (.s .z) .nil)⟩ hF
 refine Run.exit rfl ?_
 refine sr (op (OpS.fbox (o3:=0) h10 .z PA.z fa139_0 rfl rfl rfl rfl ?_))
 refine op (OpS.loadBi h10 .z PA.a (Get.fld Packet_.f0) ty5 rfl rfl rfl ?_)
 refine op (OpS.fbox (o3:=1) h10 .z PA.z fa139_1 rfl rfl rfl rfl ?_)
 refine op (OpS.loadBi h10 .z PA.a (Get.fld Packet_.f1) ty5 rfl rfl rfl ?_)
 refine gm rfl (op (OpS.litO (r:=(Rep.int .u8)) (f:=true) h10 Tryz.underlying24 ti5 rfl rfl rfl rfl rfl (.cons rfl V.int (.cons rfl V.int (.cons rfl V.int (.cons rfl V.int .nil)))) rfl rfl (λ u10 w7 h15=>?_)))
 refine op (OpS.fbox (o3:=7) h15 (.s .z) PA.z fa139_7 rfl rfl rfl rfl ?_)
 refine op (OpS.loadB h15 (.s .z) PA.a (Get.fld Packet_.f7) ty24 rfl rfl rfl (λ u11 h16=>?_))
 obtain ⟨x3,e7,hF⟩:=bindP_use hF
 refine op (OpS.app (f':=false) h16 .z Tryz.underlying24 ti5 rfl rfl rfl rfl rfl rfl rfl (V.at .z) (.inr Pure.int) e7 (λ u12 w8 h17=>?_))
 refine ga rfl (ga rfl (nil (Run.retP rfl (.tmp rfl (.tmp rfl .nil)) ?_)))
 cases hF
 exact Post.mk' ⟨u12,rfl,rfl,rfl,rfl⟩ (h17.picks (.cons .z .nil)) .nil
theorem bus_Bus_there_ok {fuel:Nat} {a0:bus_Bus} {a1:Int} {y:Bool} (hF:bus_Bus_there fuel a0 a1=some y) {w:World} {v0 v0_0:Value} :
  Spec Tryz.prog 128 [v0,.int .i64 a1].toArray w [] [(false,.box 241 (bus_Bus.repW v0_0) v0 a0),(false,.oval (oslice 256 3 (λ _=>bus_master.orep)) v0_0 a0.masters)] (λ v Γr Ωr Ωo=>v=.bool y∧Γr=[]∧Ωr=[]∧Ωo=[(false,.box 241 (bus_Bus.repW v0_0) v0 a0),(false,(.oval (oslice 256 3 (λ _=>bus_master.orep)) v0_0 a0.masters))]):=by
 refine Spec.of (L:=[(0,v0),(1,.int .i64 a1)]) Tryz.func128 rfl ⟨rfl,rfl,trivial⟩ rfl (λ e h=>?_)
 unfold bus_Bus_there at hF
 refine sr (ga rfl (nil (sr (gm rfl (gb rfl (gm rfl ?_))))))
 refine RunL.caseb hF (λ e1 hF=>?_) (λ e1 hF=>?_)
 ·refine gm rfl (gm rfl (op (OpS.nchk h .z rfl rfl rfl ?_)))
  refine op (OpS.fbox (o3:=0) h .z PA.z fa241_0 rfl rfl rfl rfl ?_)
  refine op (OpS.loadR h .z PA.a (GetS.ok (GetS.iso _ (GetS.here GetS.id))) ty239 rfl rfl rfl rfl rfl ?_)
  refine op (OpS.lenD h (.s .z) Tryz.underlying239 rfl rfl rfl ?_)
  refine gb rfl (gk rfl (ga rfl ?_))
  obtain ⟨x1,e2,hF⟩:=letP_use hF
  refine RunL.nameb e2 ?_
  refine nil (Run.retP rfl (.tmp rfl .nil) ?_)
  cases hF
  exact Post.mk' ⟨rfl,rfl,rfl,rfl⟩ (h.picks (.cons .z (.cons .z .nil))) .nil
 refine gp rfl (gp rfl (gp rfl (gp rfl (gp rfl (gp rfl (gp rfl (gk rfl (ga rfl (nil (Run.retP rfl (.tmp rfl .nil) ?_))))))))))
 cases hF
 exact Post.mk' ⟨rfl,rfl,rfl,rfl⟩ (h.picks (.cons .z (.cons .z .nil))) .nil
theorem frame_address_ok {fuel:Nat} {a0:Int} {y:Bool} (hF:frame_address fuel a0=some y) {w:World} :
  Spec Tryz.prog 137 [.int .u8 a0].toArray w [] [] (λ v Γr Ωr Ωo=>v=.bool y∧Γr=[]∧Ωr=[]∧Ωo=[]):=by
 refine Spec.of (L:=[(0,.int .u8 a0)]) Tryz.func137 rfl ⟨rfl,trivial⟩ rfl (λ e h=>?_)
 unfold frame_address at hF
 refine sr (ga rfl (nil (sr (gm rfl (gb rfl (gm rfl ?_))))))
 refine RunL.caseb hF (λ e1 hF=>?_) (λ e1 hF=>?_)
 ·refine gm rfl (gb rfl (gk rfl (ga rfl ?_)))
  obtain ⟨x1,e2,hF⟩:=letP_use hF
  refine RunL.nameb e2 ?_
  refine nil (Run.retP rfl (.tmp rfl .nil) ?_)
  cases hF
  exact Post.mk' ⟨rfl,rfl,rfl,rfl⟩ (h.picks .nil) .nil
 refine gp rfl (gp rfl (gk rfl (ga rfl (nil (Run.retP rfl (.tmp rfl .nil) ?_)))))
 cases hF
 exact Post.mk' ⟨rfl,rfl,rfl,rfl⟩ (h.picks .nil) .nil
theorem frame_Valid_ok {fuel:Nat} {a0:Frame_} {y:Bool} (hF:frame_Valid fuel a0=some y) {w:World} {v0:Value} :
  Spec Tryz.prog 194 [v0].toArray w [(false,.val Frame_.rep v0 a0)] [] (λ v Γr Ωr Ωo=>v=.bool y∧Γr=[]∧Ωr=[]∧Ωo=[]):=by
 refine Spec.of (L:=[(0,v0)]) Tryz.func194 rfl ⟨rfl,trivial⟩ rfl (λ e h=>?_)
 unfold frame_Valid at hF
 refine sr (op (OpS.boxF h rfl rfl rfl (V.at .z) (λ u1 w1 h1=>?_)))
 refine ga rfl (nil (sr (op (OpS.fbox (o3:=0) h1 .z PA.z fa142_0 rfl rfl rfl rfl ?_))))
 refine op (OpS.loadBi h1 .z PA.a (Get.fld Frame_.f0) ty5 rfl rfl rfl ?_)
 obtain ⟨y1,e1,hF⟩:=bindP_use hF
 refine op (OpS.callP h1 Tryz.func137 rfl rfl rfl rfl (vs:=[.int .u8 a0.To]) rfl (frame_address_ok e1) .nil ?_)
 rintro _ w2 _ _ _ ⟨rfl,rfl,rfl,rfl⟩ h2
 have h3:=h2 rfl rfl
 simp only [ca,na] at h3
 refine gm rfl ?_
 refine RunL.caseb hF (λ e2 hF=>?_) (λ e2 hF=>?_)
 ·refine op (OpS.fbox (o3:=1) h3 .z PA.z fa142_1 rfl rfl rfl rfl ?_)
  refine op (OpS.loadBi h3 .z PA.a (Get.fld Frame_.f1) ty5 rfl rfl rfl ?_)
  obtain ⟨y2,e3,hF⟩:=bindP_use hF
  refine op (OpS.callP h3 Tryz.func137 rfl rfl rfl rfl (vs:=[.int .u8 a0.From]) rfl (frame_address_ok e3) .nil ?_)
  rintro _ w3 _ _ _ ⟨rfl,rfl,rfl,rfl⟩ h4
  have h5:=h4 rfl rfl
  simp only [ca,na] at h5
  refine gk rfl (gm rfl ?_)
  refine RunL.caseb hF (λ e4 hF=>?_) (λ e4 hF=>?_)
  ·refine op (OpS.fbox (o3:=2) h5 .z PA.z fa142_2 rfl rfl rfl rfl ?_)
   refine op (OpS.loadB h5 .z PA.a (Get.fld Frame_.f2) ty24 rfl rfl rfl (λ u2 h6=>?_))
   refine op (OpS.len h6 Tryz.underlying24 rfl rfl rfl (V.at .z) ?_)
   refine gb rfl (gk rfl (ga rfl ?_))
   obtain ⟨x1,e5,hF⟩:=letP_use hF
   refine RunL.nameb e5 ?_
   refine nil (Run.retP rfl (.tmp rfl .nil) ?_)
   cases hF
   exact Post.mk' ⟨rfl,rfl,rfl,rfl⟩ (h6.picks .nil) .nil
  refine gp rfl (gp rfl (gp rfl (gp rfl (gk rfl (ga rfl (nil (Run.retP rfl (.tmp rfl .nil) ?_)))))))
  cases hF
  exact Post.mk' ⟨rfl,rfl,rfl,rfl⟩ (h5.picks .nil) .nil
 refine gp rfl (gp rfl (gp rfl (gk rfl (gm rfl (gp rfl (gp rfl (gp rfl (gp rfl (gk rfl (ga rfl (nil (Run.retP rfl (.tmp rfl .nil) ?_))))))))))))
 cases hF
 exact Post.mk' ⟨rfl,rfl,rfl,rfl⟩ (h3.picks .nil) .nil
theorem checksum_CRC8_ok {fuel:Nat} {a0:List Int} {y:Int} (hF:checksum_CRC8 fuel a0=some y) {w:World} {v0:Value} :
  Spec Tryz.prog 197 [v0].toArray w [(false,.val (Rep.slice (Rep.int .u8)) v0 a0)] [] (λ v Γr Ωr Ωo=>v=.int .u8 y∧Γr=[]∧Ωr=[]∧Ωo=[]):=by
 refine Spec.of (L:=[(0,v0)]) Tryz.func197 rfl ⟨rfl,trivial⟩ rfl (λ e h=>?_)
 unfold checksum_CRC8 at hF
 refine sr (ga rfl (nil (sr (ga rfl (nil (Run.seq (sr (gm rfl (op (OpS.len h Tryz.underlying24 rfl rfl rfl (V.at .z) ?_))))))))))
 refine gm rfl (nil (Run.block (Run.slim [(3,.int .u8 0),(7,v0),(8,.int .i64 (a0.length:Int)),(9,.int .i64 0)] ⟨rfl,rfl,rfl,rfl,trivial⟩ ?_)))
 refine Run.loopP (σ:=(Int×Int)) (λ s_ L_ w_=>L_=[(3,.int .u8 s_.1),(7,v0),(8,.int .i64 (a0.length:Int)),(9,.int .i64 s_.2)]∧St e w_ [(false,.val (Rep.slice (Rep.int .u8)) v0 a0)] []) hF ⟨rfl,(h.facts (.atm .z .nil)).picks .nil⟩ (λ k1 hk1 s1 _ w1 hI hF=>?_)
 obtain ⟨rfl,h1⟩:=hI
 refine sr (gb rfl (nil (Run.seq ?_)))
 refine Run.ite rfl hF (λ e1 hF=>?_) (λ e1 hF=>?_)
 ·refine Run.skip (Run.seq (Run.block (sr ?_)))
  obtain ⟨x1,e2,hF⟩:=bindP_use hF
  refine op (OpS.iptr h1 Tryz.underlying24 ty5 rfl rfl rfl rfl (V.at .z) e2 (λ u1 h2=>?_))
  refine op (OpS.loadi h2 ty5 rfl rfl rfl .z ?_)
  refine ga rfl (nil (sr (gm rfl (gm rfl (gb rfl (ga rfl (nil (sr (gm rfl (nil (Run.block (Run.slim [(3,.int .u8 (bXor .u8 s1.1 x1)),(7,v0),(8,.int .i64 (a0.length:Int)),(9,.int .i64 s1.2),(16,.int .i64 0)] ⟨rfl,rfl,rfl,rfl,rfl,trivial⟩ ?_))))))))))))
  refine Run.loopP (σ:=(Int×Int)) (λ s_ L_ w_=>L_=[(3,.int .u8 s_.1),(7,v0),(8,.int .i64 (a0.length:Int)),(9,.int .i64 s1.2),(16,.int .i64 s_.2)]∧St e w_ [(false,.val (Rep.slice (Rep.int .u8)) v0 a0)] []) hF ⟨rfl,(h2.facts (.atm (.s .z) .nil)).picks .nil⟩ (λ k2 hk2 s2 _ w2 hI hF=>?_)
  obtain ⟨rfl,h3⟩:=hI
  refine sr (gb rfl (nil (Run.seq ?_)))
  refine Run.ite rfl hF (λ e3 hF=>?_) (λ e3 hF=>?_)
  ·refine Run.skip (Run.seq (Run.block (sr (gm rfl (op (OpS.shr rfl rfl rfl rfl (by decide) ?_))))))
   refine ga rfl (nil (Run.reg (gm rfl (op (OpS.shl rfl rfl rfl rfl (by decide) ?_)))))
   refine gm rfl (gb rfl (gb rfl (ga rfl ?_)))
   obtain ⟨x2,e4,hF⟩:=letP_use hF
   refine RunL.name e4 ?_
   refine nil (Run.endBlock (Run.reg (gb rfl (gm rfl (nil (Run.slim [(3,.int .u8 x2),(7,v0),(8,.int .i64 (a0.length:Int)),(9,.int .i64 s1.2),(16,.int .i64 (IntKind.i64.wrap (s2.2+1)))] ⟨rfl,rfl,rfl,rfl,rfl,trivial⟩ ?_))))))
   exact hk2 (x2,(IntKind.i64.wrap (s2.2+1))) _ _ ⟨rfl,(h3.facts (.atm .z .nil)).picks .nil⟩ hF
  refine Run.exit rfl ?_
  refine Run.endBlock (Run.reg (gb rfl (gm rfl (nil (Run.slim [(3,.int .u8 s2.1),(7,v0),(8,.int .i64 (a0.length:Int)),(9,.int .i64 (IntKind.i64.wrap (s1.2+1)))] ⟨rfl,rfl,rfl,rfl,trivial⟩ ?_)))))
  exact hk1 (s2.1,(IntKind.i64.wrap (s1.2+1))) _ _ ⟨rfl,(h3.facts (.atm .z .nil)).picks .nil⟩ hF
 refine Run.exit rfl ?_
 refine sr (gm rfl (ga rfl (nil (Run.retP rfl (.tmp rfl .nil) ?_))))
 cases hF
 exact Post.mk' ⟨rfl,rfl,rfl,rfl⟩ (h1.picks .nil) .nil
theorem checksum_SealCRC8_ok {fuel:Nat} {a0:List Int} {y:(List Int)} (hF:checksum_SealCRC8 fuel a0=some y) {w:World} {v0:Value} :
  Spec Tryz.prog 195 [v0].toArray w [(false,.val (Rep.slice (Rep.int .u8)) v0 a0)] [] (λ v Γr Ωr Ωo=>∃ u0:Value,v=u0∧Γr=[]∧Ωr=[(true,(.slice 5 (Rep.int .u8) u0 y))]∧Ωo=[]):=by
 refine Spec.of (L:=[(0,v0)]) Tryz.func195 rfl ⟨rfl,trivial⟩ rfl (λ e h=>?_)
 unfold checksum_SealCRC8 at hF
 refine sr (ga rfl (nil (sr (gm rfl ?_))))
 obtain ⟨y1,e1,hF⟩:=bindP_use hF
 refine op (OpS.callP h Tryz.func113 rfl rfl rfl rfl (vs:=[v0]) rfl (slices_Clone_byte_byte_ok e1) (.cons (f:=false) (V.at .z) .nil) ?_)
 rintro u1 w1 _ _ _ ⟨_,rfl,rfl,rfl,rfl⟩ h1
 have h2:=h1 rfl rfl
 simp only [ca,na] at h2
 refine gm rfl ?_
 obtain ⟨y2,e2,hF⟩:=bindP_use hF
 refine op (OpS.callP h2 Tryz.func197 rfl rfl rfl rfl (vs:=[v0]) rfl (checksum_CRC8_ok e2) (.cons (f:=false) (V.at .z) .nil) ?_)
 rintro _ w2 _ _ _ ⟨rfl,rfl,rfl,rfl⟩ h3
 have h4:=h3 rfl rfl
 simp only [ca,na] at h4
 refine op (OpS.lit (r:=(Rep.int .u8)) (f:=true) h4 Tryz.underlying24 ti5 rfl rfl rfl rfl rfl (.cons rfl V.int .nil) rfl rfl (λ u2 w3 h5=>?_))
 obtain ⟨x1,e3,hF⟩:=bindP_use hF
 refine op (OpS.app (f':=true) h5 .z Tryz.underlying24 ti5 rfl rfl rfl rfl rfl rfl rfl (V.at .z) (.inr Pure.int) e3 (λ u3 w4 h6=>?_))
 refine ga rfl (nil (Run.retP rfl (.tmp rfl .nil) ?_))
 cases hF
 exact Post.mk' ⟨u3,rfl,rfl,rfl,rfl⟩ (h6.picks (.cons .z .nil)) .nil
theorem frame_Encode_ok {fuel:Nat} {a0:Frame_} {y:(List Int)×Int} (hF:frame_Encode fuel a0=some y) {w:World} {v0:Value} :
  Spec Tryz.prog 129 [v0].toArray w [(false,.val Frame_.rep v0 a0)] [] (λ v Γr Ωr Ωo=>∃ u0:Value,v=.tuple #[u0,.int .i64 y.2]∧Γr=[]∧Ωr=[(true,(.slice 5 (Rep.int .u8) u0 y.1))]∧Ωo=[]):=by
 refine Spec.of (L:=[(0,v0)]) Tryz.func129 rfl ⟨rfl,trivial⟩ rfl (λ e h=>?_)
 unfold frame_Encode at hF
 refine sr (op (OpS.boxF h rfl rfl rfl (V.at .z) (λ u1 w1 h1=>?_)))
 refine ga rfl (ga rfl (nil (Run.seq (sr (op (OpS.loadB h1 .z PA.z Get.id ty142 rfl rfl rfl (λ u2 h2=>?_)))))))
 obtain ⟨y1,e1,hF⟩:=bindP_use hF
 refine op (OpS.callP h2 Tryz.func194 rfl rfl rfl rfl (vs:=[u2]) rfl (frame_Valid_ok e1) (.cons (f:=false) (V.at .z) .nil) ?_)
 rintro _ w2 _ _ _ ⟨rfl,rfl,rfl,rfl⟩ h3
 have h4:=h3 rfl rfl
 simp only [ca,na] at h4
 refine op (OpS.not rfl rfl rfl ?_)
 refine nil ?_
 refine Run.ite rfl hF (λ e2 hF=>?_) (λ e2 hF=>?_)
 ·refine sr (ga rfl (ga rfl (nil ?_)))
  have h5:=St.nil 5 (Rep.int .u8) h4
  refine Run.retP rfl (.tmp rfl (.tmp rfl .nil)) ?_
  cases hF
  exact Post.mk' ⟨(.slice none 0 0),rfl,rfl,rfl,rfl⟩ (h5.picks (.cons .z .nil)) .nil
 refine Run.skip (sr (op (OpS.fbox (o3:=0) h4 .z PA.z fa142_0 rfl rfl rfl rfl ?_)))
 refine op (OpS.loadBi h4 .z PA.a (Get.fld Frame_.f0) ty5 rfl rfl rfl ?_)
 refine gb rfl (op (OpS.fbox (o3:=2) h4 .z PA.z fa142_2 rfl rfl rfl rfl ?_))
 refine op (OpS.loadB h4 .z PA.a (Get.fld Frame_.f2) ty24 rfl rfl rfl (λ u3 h6=>?_))
 refine op (OpS.len h6 Tryz.underlying24 rfl rfl rfl (V.at .z) ?_)
 refine gb rfl (op (OpS.conv Tryz.underlying3 Tryz.underlying5 rfl rfl rfl ?_))
 refine op (OpS.fbox (o3:=1) h6 .z PA.z fa142_1 rfl rfl rfl rfl ?_)
 refine op (OpS.loadBi h6 .z PA.a (Get.fld Frame_.f1) ty5 rfl rfl rfl ?_)
 refine gb rfl (gb rfl (op (OpS.litO (r:=(Rep.int .u8)) (f:=true) h6 Tryz.underlying24 ti5 rfl rfl rfl rfl rfl (.cons rfl V.int (.cons rfl V.int (.cons rfl V.int (.cons rfl V.int .nil)))) rfl rfl (λ u4 w3 h7=>?_))))
 refine op (OpS.fbox (o3:=2) h7 (.s .z) PA.z fa142_2 rfl rfl rfl rfl ?_)
 refine op (OpS.loadB h7 (.s .z) PA.a (Get.fld Frame_.f2) ty24 rfl rfl rfl (λ u5 h8=>?_))
 obtain ⟨x1,e3,hF⟩:=bindP_use hF
 refine op (OpS.app (f':=false) h8 .z Tryz.underlying24 ti5 rfl rfl rfl rfl rfl rfl rfl (V.at .z) (.inr Pure.int) e3 (λ u6 w4 h9=>?_))
 obtain ⟨y2,e4,hF⟩:=bindP_use hF
 refine op (OpS.callP h9 Tryz.func195 rfl rfl rfl rfl (vs:=[u6]) rfl (checksum_SealCRC8_ok e4) (.own .z .nil) ?_)
 rintro u7 w5 _ _ _ ⟨_,rfl,rfl,rfl,rfl⟩ h10
 have h11:=h10 rfl rfl
 simp only [ca,na] at h11
 refine ga rfl (ga rfl (nil (Run.retP rfl (.tmp rfl (.tmp rfl .nil)) ?_)))
 cases hF
 exact Post.mk' ⟨u7,rfl,rfl,rfl,rfl⟩ (h11.picks (.cons .z .nil)) .nil
set_option maxRecDepth 20000 in
theorem bus_Bus_Submit_ok {fuel:Nat} {a0:bus_Bus} {a1:Int} {a2:Frame_} {y:Int×bus_Bus} (hF:bus_Bus_Submit fuel a0 a1 a2=some y) {w:World} {v0 v0_0 v2:Value} :
  Spec Tryz.prog 60 [v0,.int .i64 a1,v2].toArray w [(false,.val Frame_.rep v2 a2)] [(false,.box 241 (bus_Bus.repW v0_0) v0 a0),(false,.oval (oslice 256 3 (λ _=>bus_master.orep)) v0_0 a0.masters)] (λ v Γr Ωr Ωo=>∃ w0_0:Value,v=.int .i64 y.1∧Γr=[]∧Ωr=[]∧Ωo=[(false,.box 241 (bus_Bus.repW w0_0) v0 y.2),(false,(.oval (oslice 256 3 (λ _=>bus_master.orep)) w0_0 y.2.masters))]):=by
 refine Spec.of (L:=[(0,v0),(1,.int .i64 a1),(2,v2)]) Tryz.func60 rfl ⟨rfl,rfl,rfl,trivial⟩ rfl (λ e h=>?_)
 unfold bus_Bus_Submit at hF
 refine sr (op (OpS.boxF h rfl rfl rfl (V.at .z) (λ u1 w1 h1=>?_)))
 refine ga rfl (nil (Run.seq (sr (gm rfl (gm rfl ?_)))))
 obtain ⟨y1,e1,hF⟩:=bindP_use hF
 have h2:=h1.front (.cons (.s .z) (.cons (.s .z) .nil))
 refine op (OpS.callO h2 Tryz.func128 rfl rfl rfl rfl (vs:=[v0,.int .i64 a1]) rfl (bus_Bus_there_ok e1) rfl .nil ?_)
 rintro _ w2 _ _ _ ⟨rfl,rfl,rfl,rfl⟩ h3
 have h4:=h3
 simp only [ca,na] at h4
 refine op (OpS.not rfl rfl rfl ?_)
 refine nil ?_
 refine Run.ite rfl hF (λ e2 hF=>?_) (λ e2 hF=>?_)
 ·refine sr (ga rfl (nil (Run.retP rfl (.tmp rfl .nil) ?_)))
  cases hF
  exact Post.mk' ⟨v0_0,rfl,rfl,rfl,rfl⟩ (h4.picks (.cons .z (.cons .z .nil))) .nil
 refine Run.skip (sr (op (OpS.loadB h4 (.s (.s .z)) PA.z Get.id ty142 rfl rfl rfl (λ u2 h5=>?_))))
 obtain ⟨y2,e3,hF⟩:=bindP_use hF
 refine op (OpS.callP h5 Tryz.func129 rfl rfl rfl rfl (vs:=[u2]) rfl (frame_Encode_ok e3) (.cons (f:=false) (V.at .z) .nil) ?_)
 rintro _ w3 _ _ _ ⟨u3,rfl,rfl,rfl,rfl⟩ h6
 have h7:=h6 rfl rfl
 simp only [ca,na] at h7
 refine gm rfl (op (OpS.ext rfl rfl rfl rfl ?_))
 refine op (OpS.ext rfl rfl rfl rfl ?_)
 refine ga rfl ?_
 have h8:=(h7.pick .z).freeze
 refine ga rfl (nil (Run.seq (Run.block (sr (gm rfl (gb rfl (ga rfl ?_)))))))
 obtain ⟨x1,e4,hF⟩:=letP_use hF
 refine RunL.nameb e4 ?_
 refine nil ?_
 refine Run.ite rfl hF (λ e5 hF=>?_) (λ e5 hF=>?_)
 ·refine sr (ga rfl (nil (Run.retP rfl (.tmp rfl .nil) ?_)))
  cases hF
  exact Post.mk' ⟨v0_0,rfl,rfl,rfl,rfl⟩ (h8.picks (.cons .z (.cons .z .nil))) .nil
 refine sr (gm rfl (op (OpS.nchk h8 .z rfl rfl rfl ?_)))
 refine op (OpS.fbox (o3:=0) h8 .z PA.z fa241_0 rfl rfl rfl rfl ?_)
 refine op (OpS.loadR h8 .z PA.a (GetS.ok (GetS.iso _ (GetS.here GetS.id))) ty239 rfl rfl rfl rfl rfl ?_)
 refine gm rfl ?_
 obtain ⟨x2,e6,hF⟩:=bindP_use hF
 refine op (OpS.iownD h8 (.s .z) Tryz.underlying239 sz256 rfl rfl rfl rfl e6 ?_)
 refine op (OpS.fownD h8 (.s .z) (idx_ne e6) PA.a fa256_0 rfl rfl rfl ?_)
 refine op (OpS.loadS (fr:=Rep.hollow) h8 (.s .z) bus_master.wk rfl (idx_ne e6) PA.a (Get.comp (Get.arr e6) (GetS.ok (GetS.iso _ (GetS.here GetS.id)))) (Ty.like ty170 (by rfl) (by rfl)) rfl rfl rfl (λ u4 h9=>?_))
 refine op (OpS.lenH h9 Tryz.underlying170 rfl rfl rfl (V.at .z) ?_)
 refine gb rfl (ga rfl ?_)
 obtain ⟨x3,e7,hF⟩:=letP_use hF
 refine RunL.nameb e7 ?_
 refine nil ?_
 refine Run.ite rfl hF (λ e8 hF=>?_) (λ e8 hF=>?_)
 ·refine sr (ga rfl (nil (Run.retP rfl (.tmp rfl .nil) ?_)))
  cases hF
  exact Post.mk' ⟨v0_0,rfl,rfl,rfl,rfl⟩ (h9.picks (.cons .z (.cons .z .nil))) .nil
 refine Run.skip (Run.endBlock (Run.seq ?_))
 obtain ⟨x4,e9,hF⟩:=bindP_use hF
 obtain ⟨x5,e10,hF⟩:=bindP_use hF
 refine Run.drawV (Ωs:=[(false,.box 142 Frame_.rep u1 a2)]) [.k 32 v0,.kr 33 v0 [0],.kr 34 (padd v0 0) [0],.kr 35 v0_0 [0],.k 36 (.int .i64 a1),.k 37 v0,.kr 38 v0 [0],.kr 39 (padd v0 0) [0],.kr 40 v0_0 [0],.k 41 (.int .i64 a1),⟨some 42,some ((padd (sp v0_0) ((a1:Int).toNat*3))),λ _=>[],λ ds_ u_=>[],[],[(1,[12,11,10])],none⟩,⟨some 43,some ((padd (sp v0_0) ((a1:Int).toNat*3+0))),λ _=>[],λ ds_ u_=>[],[],[(1,[12,11])],none⟩,⟨some 44,none,λ u_=>[],λ ds_ u_=>[(false,.oval (oslice 256 3 (at' (λ _=>bus_master.orep) (a1).toNat (bus_master.orepW (raw u_)))) v0_0 a0.masters),(false,.oval (oslice 24 1 (λ _=>(sh (Rep.slice (Rep.int .u8))))) u_ x4.queue)],[1],[],none⟩,.k 45 u3,.f 46 (λ u_=>[(true,.val (Rep.slice (Rep.slice (Rep.int .u8))) u_ ([y2.1]))]),⟨some 47,none,λ u_=>[],λ ds_ u_=>[(false,.oval (oslice 256 3 (at' (λ _=>bus_master.orep) (a1).toNat (bus_master.orepW (raw (nth ds_ 0))))) v0_0 a0.masters),(false,.oval (oslice 24 1 (λ _=>(sh (Rep.slice (Rep.int .u8))))) u_ x5)],[14],[],none⟩] [[],[0],[1],[2],[],[],[5],[6],[7],[],[8,9],[10],[11],[],[13],[12,14]] [[(false,.box 241 (bus_Bus.repW v0_0) v0 a0)],[(false,.oval (oslice 256 3 (λ _=>bus_master.orep)) v0_0 a0.masters)]] [0,2,3,4,5,6,7,8,9,10,11,12,13,15,16,17] Try_mixed rfl rfl rfl h9 (.cons ?_ (.cons ?_ (.cons ?_ (.cons ?_ (.cons ?_ (.cons ?_ (.cons ?_ (.cons ?_ (.cons ?_ (.cons ?_ (.cons ?_ (.cons ?_ (.cons ?_ (.cons ?_ (.cons ?_ (.cons ?_ .nil)))))))))))))))) (λ q1 w hq1 h=>?_)
 ·intro q1 w Γx Ωx h
  refine OpS.mv rfl rfl rfl ?_
  exact du h
 ·intro q1 w Γx Ωx h
  refine OpS.nchk h .z rfl rfl rfl ?_
  exact du h
 ·intro q1 w Γx Ωx h
  refine OpS.fbox (o3:=0) h .z PA.z fa241_0 rfl rfl rfl rfl ?_
  exact du h
 ·intro q1 w Γx Ωx h
  refine OpS.loadR h .z PA.a (GetS.ok (GetS.iso _ (GetS.here GetS.id))) ty239 rfl rfl rfl rfl rfl ?_
  exact du h
 ·intro q1 w Γx Ωx h
  refine OpS.mv rfl rfl rfl ?_
  exact du h
 ·intro q1 w Γx Ωx h
  refine OpS.mv rfl rfl rfl ?_
  exact du h
 ·intro q1 w Γx Ωx h
  refine OpS.nchk h .z rfl rfl rfl ?_
  exact du h
 ·intro q1 w Γx Ωx h
  refine OpS.fbox (o3:=0) h .z PA.z fa241_0 rfl rfl rfl rfl ?_
  exact du h
 ·intro q1 w Γx Ωx h
  refine OpS.loadR h .z PA.a (GetS.ok (GetS.iso _ (GetS.here GetS.id))) ty239 rfl rfl rfl rfl rfl ?_
  exact du h
 ·intro q1 w Γx Ωx h
  refine OpS.mv rfl rfl rfl ?_
  exact du h
 ·intro q1 w Γx Ωx h
  refine OpS.iownD h .z Tryz.underlying239 sz256 rfl rfl rfl rfl e9 ?_
  exact du h
 ·intro q1 w Γx Ωx h
  refine OpS.fownD h .z (idx_ne e9) PA.a fa256_0 rfl rfl rfl ?_
  exact du h
 ·intro q1 w Γx Ωx h
  refine OpS.openO (F':=λ v_=>at' (λ _=>bus_master.orep) (a1).toNat (bus_master.orepW (raw v_))) (hn:=λ _=>rfl) (hn':=λ _=>at_hn rfl rfl) h .z (idx_ne e9) PA.a (λ v_=>Len.comp (Len.arrOpen e9) (bus_master.lenO v_)) rfl ty170 rfl rfl rfl rfl (λ u h13=>?_)
  exact ⟨u,rfl,trivial,h13⟩
 ·intro q1 w Γx Ωx h
  refine OpS.mv rfl rfl rfl ?_
  exact du h
 ·intro q1 w Γx Ωx h
  refine OpS.lit (r:=(Rep.slice (Rep.int .u8))) (f:=true) h Tryz.underlying170 ti24 rfl rfl rfl rfl rfl (.cons rfl (V.at (.s .z)) .nil) rfl rfl (λ u w6 h14=>?_)
  exact ⟨u,rfl,trivial,h14⟩
 ·intro q1 w Γx Ωx h
  refine OpS.appD (fr:=(Rep.slice (Rep.int .u8))) (f':=true) h (.s .z) Tryz.underlying170 ti24 rfl rfl rfl rfl rfl rfl rfl (V.at .z) (.inl rfl) e10 (λ u w7 h15=>?_)
  have h16:=h15.front (.cons (.s .z) (.cons .z (.cons .z .nil)))
  exact ⟨u,rfl,trivial,h16⟩
 have h17:=h
 refine op (OpS.iownD h17 (.s .z) Tryz.underlying239 sz256 rfl rfl rfl rfl e9 ?_)
 refine op (OpS.fownD h17 (.s .z) (idx_ne e9) PA.a fa256_0 rfl rfl rfl ?_)
 obtain ⟨d1,e11,hF⟩:=letP_use hF
 refine op (OpS.storePO (F:=(at' (λ _=>bus_master.orep) (a1).toNat (bus_master.orepW (raw (q1 12))))) (F2:=λ _=>bus_master.orep) (hn:=at_hn rfl rfl) (hn2:=λ _=>rfl) h17 (.s .z) (.s .z) (idx_ne e9) PA.a (Len.comp (Len.arrShut e9) (bus_master.lenC (q1 12))) ty170 rfl rfl rfl rfl (.inr rfl) (λ w8 h18=>?_))
 have h19:=St.termD (l':=d1) h18 e11
 refine nil (Run.slim [] trivial ?_)
 refine sr (ga rfl (nil ?_))
 have h20:=St.boxJ (r':=(bus_Bus.repW v0_0)) (x':={ a0 with masters:=d1 }) (h19.pick (.s .z)) (λ _ _ hs_=>(Jn.iso _ (Jn.prod Jn.same Jn.refl)))
 refine Run.retP rfl (.tmp rfl .nil) ?_
 cases hF
 exact Post.mk' ⟨v0_0,rfl,rfl,rfl,rfl⟩ (h20.picks (.cons .z (.cons .z .nil))) .nil
theorem bus_Bus_taking_ok {fuel:Nat} {a0:bus_Bus} {y:(List Int)×bus_Bus} (hF:bus_Bus_taking fuel a0=some y) {w:World} {v0 v0_0:Value} :
  Spec Tryz.prog 130 [v0].toArray w [] [(false,.box 241 (bus_Bus.repW v0_0) v0 a0),(false,.oval (oslice 256 3 (λ _=>bus_master.orep)) v0_0 a0.masters)] (λ v Γr Ωr Ωo=>∃ u0 w0_0:Value,v=u0∧Γr=[]∧Ωr=[(true,(.slice 3 (Rep.int .i64) u0 y.1))]∧Ωo=[(false,.box 241 (bus_Bus.repW w0_0) v0 y.2),(false,(.oval (oslice 256 3 (λ _=>bus_master.orep)) w0_0 y.2.masters))]):=by
 refine Spec.of (L:=[(0,v0)]) Tryz.func130 rfl ⟨rfl,trivial⟩ rfl (λ e h=>?_)
 unfold bus_Bus_taking at hF
 refine sr (ga rfl (nil (sr (ga rfl (ga rfl (nil (Run.seq (sr (gm rfl (op (OpS.nchk h .z rfl rfl rfl ?_)))))))))))
 refine op (OpS.fbox (o3:=0) h .z PA.z fa241_0 rfl rfl rfl rfl ?_)
 refine op (OpS.loadR h .z PA.a (GetS.ok (GetS.iso _ (GetS.here GetS.id))) ty239 rfl rfl rfl rfl rfl ?_)
 refine op (OpS.lenD h (.s .z) Tryz.underlying239 rfl rfl rfl ?_)
 refine gm rfl (nil (Run.block ?_))
 have h1:=St.nil 3 (Rep.int .i64) h
 have h2:=St.nil 3 (Rep.int .i64) h1
 refine Run.slim [(0,v0),(3,(.slice none 0 0)),(4,(.slice none 0 0)),(11,v0_0),(12,.int .i64 (a0.masters.length:Int)),(13,.int .i64 0)] ⟨rfl,rfl,rfl,rfl,rfl,rfl,trivial⟩ ?_
 refine Run.loopP (σ:=(Int×(List Int)×(List Int))) (λ s_ L_ w_=>∃ u0_ u1_:Value,L_=[(0,v0),(3,u0_),(4,u1_),(11,v0_0),(12,.int .i64 (a0.masters.length:Int)),(13,.int .i64 s_.1)]∧St e w_ [] [(false,.box 241 (bus_Bus.repW v0_0) v0 a0),(true,.slice 3 (Rep.int .i64) u0_ s_.2.1),(true,.slice 3 (Rep.int .i64) u1_ s_.2.2),(false,.oval (oslice 256 3 (λ _=>bus_master.orep)) v0_0 a0.masters)]) hF ⟨(.slice none 0 0),(.slice none 0 0),rfl,(h2.facts .nil).picks (.cons (.s (.s .z)) (.cons (.s .z) (.cons .z (.cons .z .nil))))⟩ (λ k1 hk1 s1 _ w1 hI hF=>?_)
 obtain ⟨u1,u2,rfl,h3⟩:=hI
 refine sr (gb rfl (nil (Run.seq ?_)))
 refine Run.ite rfl hF (λ e1 hF=>?_) (λ e1 hF=>?_)
 ·refine Run.skip (Run.seq (Run.block (sr (gm rfl ?_))))
  obtain ⟨x1,e2,hF⟩:=bindP_use hF
  refine op (OpS.iownD h3 (.s (.s (.s .z))) Tryz.underlying239 sz256 rfl rfl rfl rfl e2 ?_)
  refine op (OpS.loadS (fr:=RqC2) h3 (.s (.s (.s .z))) bus_master.wk rfl (idx_ne e2) PA.a (Get.arr e2) (Ty.like ty256 (by rfl) (by rfl)) rfl rfl rfl (λ u3 h4=>?_))
  refine op (OpS.alloc h4 ti256 bus_master.zr rfl rfl (λ u4 w2 h5=>?_))
  refine ga rfl ?_
  have h7:=(h5.pick .z).weak
  refine op (OpS.storeC (f':=false) (fr:=RqC2) (r':=RqC2) (x':=x1) (y:=x1) h7 .z PA.z (Chg.id (by rfl)) (Ty.like ty256 (by rfl) (by rfl)) rfl rfl rfl (V.at .z) (.inr rfl) (λ w3 h6=>?_))
  refine nil (Run.seq (sr (op (OpS.fbox (o3:=0) h6 .z PA.z fa256_0 rfl rfl rfl rfl ?_))))
  refine op (OpS.loadB (fr:=Rep.hollow) h6 .z PA.a (GetS.ok (GetS.iso _ (GetS.here GetS.id))) (Ty.like ty170 (by rfl) (by rfl)) rfl rfl rfl (λ u5 h8=>?_))
  refine op (OpS.lenH h8 Tryz.underlying170 rfl rfl rfl (V.at .z) ?_)
  refine gb rfl (nil ?_)
  refine Run.ite rfl hF (λ e3 hF=>?_) (λ e3 hF=>?_)
  ·refine Run.exit rfl ?_
   refine Run.reg (gb rfl (gm rfl (nil (Run.slim [(0,v0),(3,u1),(4,u2),(11,v0_0),(12,.int .i64 (a0.masters.length:Int)),(13,.int .i64 (IntKind.i64.wrap (s1.1+1)))] ⟨rfl,rfl,rfl,rfl,rfl,rfl,trivial⟩ ?_))))
   exact hk1 ((IntKind.i64.wrap (s1.1+1)),s1.2.1,s1.2.2) _ _ ⟨u1,u2,rfl,(h8.facts .nil).picks (.cons (.s .z) (.cons (.s .z) (.cons (.s .z) (.cons (.s .z) .nil))))⟩ hF
  refine Run.skip (sr (gm rfl (gm rfl (op (OpS.lit (r:=(Rep.int .i64)) (f:=true) h8 Tryz.underlying22 ti3 rfl rfl rfl rfl rfl (.cons rfl V.int .nil) rfl rfl (λ u6 w4 h9=>?_))))))
  obtain ⟨x2,e4,hF⟩:=bindP_use hF
  refine op (OpS.app (f':=true) h9 (.s (.s .z)) Tryz.underlying22 ti3 rfl rfl rfl rfl rfl rfl rfl (V.at .z) (.inr Pure.int) e4 (λ u7 w5 h10=>?_))
  refine ga rfl (nil (sr (op (OpS.fbox (o3:=2) h10 (.s .z) PA.z fa256_2 rfl rfl rfl rfl ?_))))
  refine op (OpS.loadBb h10 (.s .z) PA.a (GetS.ok (GetS.iso _ (GetS.there (GetS.there (GetS.here GetS.id))))) ty4 rfl rfl rfl ?_)
  refine op (OpS.not rfl rfl rfl ?_)
  refine nil ?_
  refine Run.ite rfl hF (λ e5 hF=>?_) (λ e5 hF=>?_)
  ·refine Run.reg (gm rfl (gm rfl (op (OpS.lit (r:=(Rep.int .i64)) (f:=true) h10 Tryz.underlying22 ti3 rfl rfl rfl rfl rfl (.cons rfl V.int .nil) rfl rfl (λ u8 w6 h11=>?_)))))
   obtain ⟨x3,e6,hF⟩:=bindP_use hF
   refine op (OpS.app (f':=true) h11 (.s (.s (.s .z))) Tryz.underlying22 ti3 rfl rfl rfl rfl rfl rfl rfl (V.at .z) (.inr Pure.int) e6 (λ u9 w7 h12=>?_))
   refine ga rfl (nil (Run.endBlock (Run.reg (gb rfl (gm rfl (nil (Run.slim [(0,v0),(3,u7),(4,u9),(11,v0_0),(12,.int .i64 (a0.masters.length:Int)),(13,.int .i64 (IntKind.i64.wrap (s1.1+1)))] ⟨rfl,rfl,rfl,rfl,rfl,rfl,trivial⟩ ?_)))))))
   exact hk1 ((IntKind.i64.wrap (s1.1+1)),x2,x3) _ _ ⟨u7,u9,rfl,(h12.facts .nil).picks (.cons (.s (.s (.s .z))) (.cons (.s .z) (.cons .z (.cons (.s .z) .nil))))⟩ hF
  refine Run.skip (Run.endBlock (Run.reg (gb rfl (gm rfl (nil (Run.slim [(0,v0),(3,u7),(4,u2),(11,v0_0),(12,.int .i64 (a0.masters.length:Int)),(13,.int .i64 (IntKind.i64.wrap (s1.1+1)))] ⟨rfl,rfl,rfl,rfl,rfl,rfl,trivial⟩ ?_))))))
  exact hk1 ((IntKind.i64.wrap (s1.1+1)),x2,s1.2.2) _ _ ⟨u7,u2,rfl,(h10.facts .nil).picks (.cons (.s (.s .z)) (.cons .z (.cons (.s .z) (.cons (.s .z) .nil))))⟩ hF
 refine Run.exit rfl ?_
 refine Run.seq (sr (gm rfl (op (OpS.lenO h3 (.s (.s .z)) Tryz.underlying22 rfl rfl rfl ?_))))
 refine gb rfl (gm rfl ?_)
 refine RunL.join (σ:=Bool) (λ s_ L_ w_=>L_=[(0,v0),(3,u1),(4,u2),(41,.bool s_)]∧St e w_ [] [(false,.box 241 (bus_Bus.repW v0_0) v0 a0),(true,.slice 3 (Rep.int .i64) u1 s1.2.1),(true,.slice 3 (Rep.int .i64) u2 s1.2.2),(false,.oval (oslice 256 3 (λ _=>bus_master.orep)) v0_0 a0.masters)]) hF (λ s2 _ w8 hI hF=>?_) (λ j1 hj1 hF=>?_)
 ·obtain ⟨rfl,h13⟩:=hI
  refine Run.ite rfl hF (λ e7 hF=>?_) (λ e7 hF=>?_)
  ·refine sr (gm rfl (ga rfl (nil (Run.retP rfl (.tmp rfl .nil) ?_))))
   cases hF
   exact Post.mk' ⟨u2,v0_0,rfl,rfl,rfl,rfl⟩ (h13.picks (.cons (.s (.s .z)) (.cons .z (.cons (.s .z) .nil)))) .nil
  refine Run.skip (Run.seq (sr (gm rfl (op (OpS.nchk h13 .z rfl rfl rfl ?_)))))
  refine op (OpS.fbox (o3:=0) h13 .z PA.z fa241_0 rfl rfl rfl rfl ?_)
  refine op (OpS.loadR h13 .z PA.a (GetS.ok (GetS.iso _ (GetS.here GetS.id))) ty239 rfl rfl rfl rfl rfl ?_)
  refine op (OpS.lenD h13 (.s (.s (.s .z))) Tryz.underlying239 rfl rfl rfl ?_)
  refine gm rfl (nil (Run.block (Run.slim [(0,v0),(3,u1),(47,.int .i64 (a0.masters.length:Int)),(48,.int .i64 0)] ⟨rfl,rfl,rfl,rfl,trivial⟩ ?_)))
  refine Run.loopP (σ:=(Int×bus_Bus)) (λ s_ L_ w_=>L_=[(0,v0),(3,u1),(47,.int .i64 (a0.masters.length:Int)),(48,.int .i64 s_.1)]∧St e w_ [] [(false,.box 241 (bus_Bus.repW v0_0) v0 s_.2),(true,.slice 3 (Rep.int .i64) u1 s1.2.1),(false,.oval (oslice 256 3 (λ _=>bus_master.orep)) v0_0 s_.2.masters)]) hF ⟨rfl,(h13.facts .nil).picks (.cons .z (.cons .z (.cons (.s .z) .nil)))⟩ (λ k2 hk2 s3 _ w9 hI hF=>?_)
  obtain ⟨rfl,h14⟩:=hI
  refine sr (gb rfl (nil (Run.seq ?_)))
  refine Run.ite rfl hF (λ e8 hF=>?_) (λ e8 hF=>?_)
  ·refine Run.skip (Run.seq (Run.block (sr (gm rfl (ga rfl (nil (Run.reg (gm rfl (op (OpS.nchk h14 .z rfl rfl rfl ?_))))))))))
   refine op (OpS.fbox (o3:=0) h14 .z PA.z fa241_0 rfl rfl rfl rfl ?_)
   refine op (OpS.loadR h14 .z PA.a (GetS.ok (GetS.iso _ (GetS.here GetS.id))) ty239 rfl rfl rfl rfl rfl ?_)
   refine gm rfl ?_
   obtain ⟨x4,e9,hF⟩:=bindP_use hF
   refine op (OpS.iownD h14 (.s (.s .z)) Tryz.underlying239 sz256 rfl rfl rfl rfl e9 ?_)
   refine op (OpS.fownD h14 (.s (.s .z)) (idx_ne e9) PA.a fa256_2 rfl rfl rfl ?_)
   obtain ⟨d1,e10,hF⟩:=letP_use hF
   refine op (OpS.storeOD (F2:=λ _=>bus_master.orep) (f':=true) (hn:=λ _=>rfl) (hn2:=λ _=>rfl) h14 (.s (.s .z)) (idx_ne e9) PA.a (Len.comp (Len.arrSame e9) bus_master.l2) ty4 rfl rfl rfl V.bool (.inr rfl) (λ w10 h15=>?_))
   have h16:=St.termD (l':=d1) h15 e10
   refine nil (Run.endBlock (Run.reg (gb rfl (gm rfl (nil ?_)))))
   have h17:=St.boxJ (r':=(bus_Bus.repW v0_0)) (x':={ s3.2 with masters:=d1 }) (h16.pick (.s .z)) (λ _ _ hs_=>(Jn.iso _ (Jn.prod Jn.same Jn.refl)))
   refine Run.slim [(0,v0),(3,u1),(47,.int .i64 (a0.masters.length:Int)),(48,.int .i64 (IntKind.i64.wrap (s3.1+1)))] ⟨rfl,rfl,rfl,rfl,trivial⟩ ?_
   exact hk2 ((IntKind.i64.wrap (s3.1+1)),{ s3.2 with masters:=d1 }) _ _ ⟨rfl,(h17.facts .nil).picks (.cons .z (.cons (.s .z) (.cons .z .nil)))⟩ hF
  refine Run.exit rfl ?_
  refine sr (gm rfl (ga rfl (nil (Run.retP rfl (.tmp rfl .nil) ?_))))
  cases hF
  exact Post.mk' ⟨u1,v0_0,rfl,rfl,rfl,rfl⟩ (h14.picks (.cons (.s .z) (.cons .z (.cons .z .nil)))) .nil
 refine RunL.caseb hF (λ e11 hF=>?_) (λ e11 hF=>?_)
 ·refine gp rfl (gp rfl (gp rfl (gk rfl (nil (Run.slim [(0,v0),(3,u1),(4,u2),(41,.bool true)] ⟨rfl,rfl,rfl,rfl,trivial⟩ ?_)))))
  exact hj1 (true) _ _ ⟨rfl,(h3.facts .nil).picks (.cons .z (.cons .z (.cons .z (.cons .z .nil))))⟩ hF
 refine gm rfl (op (OpS.lenO h3 (.s .z) Tryz.underlying22 rfl rfl rfl ?_))
 refine gb rfl (gk rfl (nil (Run.slim [(0,v0),(3,u1),(4,u2),(41,.bool ((s1.2.1.length:Int)==0))] ⟨rfl,rfl,rfl,rfl,trivial⟩ ?_)))
 exact hj1 ((s1.2.1.length:Int)==0) _ _ ⟨rfl,(h3.facts .nil).picks (.cons .z (.cons .z (.cons .z (.cons .z .nil))))⟩ hF
theorem bytes_Compare_ok {fuel:Nat} {a0:List Int} {a1:List Int} {y:Int} (hF:bytes_Compare fuel a0 a1=some y) {w:World} {v0 v1:Value} :
  Spec Tryz.prog 196 [v0,v1].toArray w [(false,.val (Rep.slice (Rep.int .u8)) v0 a0),(false,.val (Rep.slice (Rep.int .u8)) v1 a1)] [] (λ v Γr Ωr Ωo=>v=.int .i64 y∧Γr=[]∧Ωr=[]∧Ωo=[]):=by
 refine Spec.of (L:=[(0,v0),(1,v1)]) Tryz.func196 rfl ⟨rfl,rfl,trivial⟩ rfl (λ e h=>?_)
 unfold bytes_Compare at hF
 refine sr (ga rfl (nil (sr (gm rfl (gm rfl (op (OpS.cmpB h Tryz.func238 rfl rfl ext238n ext238 rfl rfl rfl rfl (V.at .z) (V.at (.s .z)) ?_)))))))
 refine ga rfl (nil (Run.retP rfl (.tmp rfl .nil) ?_))
 cases hF
 exact Post.mk' ⟨rfl,rfl,rfl,rfl⟩ (h.picks .nil) .nil
theorem frame_Compare_ok {fuel:Nat} {a0:List Int} {a1:List Int} {y:Int} (hF:frame_Compare fuel a0 a1=some y) {w:World} {v0 v1:Value} :
  Spec Tryz.prog 134 [v0,v1].toArray w [(false,.val (Rep.slice (Rep.int .u8)) v0 a0),(false,.val (Rep.slice (Rep.int .u8)) v1 a1)] [] (λ v Γr Ωr Ωo=>v=.int .i64 y∧Γr=[]∧Ωr=[]∧Ωo=[]):=by
 refine Spec.of (L:=[(0,v0),(1,v1)]) Tryz.func134 rfl ⟨rfl,rfl,trivial⟩ rfl (λ e h=>?_)
 unfold frame_Compare at hF
 refine sr (ga rfl (nil (sr (gm rfl (gm rfl ?_)))))
 obtain ⟨y1,e1,hF⟩:=bindP_use hF
 refine op (OpS.callP h Tryz.func196 rfl rfl rfl rfl (vs:=[v0,v1]) rfl (bytes_Compare_ok e1) (.cons (f:=false) (V.at .z) (.cons (f:=false) (V.at (.s .z)) .nil)) ?_)
 rintro _ w1 _ _ _ ⟨rfl,rfl,rfl,rfl⟩ h1
 have h2:=h1 rfl rfl
 simp only [ca,na] at h2
 refine ga rfl (nil (Run.retP rfl (.tmp rfl .nil) ?_))
 cases hF
 exact Post.mk' ⟨rfl,rfl,rfl,rfl⟩ (h2.picks .nil) .nil
set_option maxRecDepth 20000 in
theorem bus_arrive_ok {fuel:Nat} {a0:List Int} {a1:Fault_} {y:(List Int)} (hF:bus_arrive fuel a0 a1=some y) {w:World} {v0 v1:Value} :
  Spec Tryz.prog 135 [v0,v1].toArray w [(false,.val (Rep.slice (Rep.int .u8)) v0 a0),(false,.val Fault_.rep v1 a1)] [] (λ v Γr Ωr Ωo=>∃ u0:Value,v=u0∧Γr=[]∧Ωr=[(true,(.slice 5 (Rep.int .u8) u0 y))]∧Ωo=[]):=by
 refine Spec.of (L:=[(0,v0),(1,v1)]) Tryz.func135 rfl ⟨rfl,rfl,trivial⟩ rfl (λ e h=>?_)
 unfold bus_arrive at hF
 refine sr (op (OpS.boxF h rfl rfl rfl (V.at (.s .z)) (λ u1 w1 h1=>?_)))
 refine ga rfl (nil (Run.seq (sr (op (OpS.fbox (o3:=0) h1 .z PA.z fa145_0 rfl rfl rfl rfl ?_)))))
 refine op (OpS.loadBi h1 .z PA.a (Get.fld Fault_.f0) ty3 rfl rfl rfl ?_)
 refine gb rfl (nil ?_)
 refine Run.ite rfl hF (λ e1 hF=>?_) (λ e1 hF=>?_)
 ·refine sr (ga rfl (nil ?_))
  have h2:=St.nil 5 (Rep.int .u8) h1
  refine Run.retP rfl (.tmp rfl .nil) ?_
  cases hF
  exact Post.mk' ⟨(.slice none 0 0),rfl,rfl,rfl,rfl⟩ (h2.picks (.cons .z .nil)) .nil
 refine Run.skip (sr (gm rfl ?_))
 obtain ⟨y1,e2,hF⟩:=bindP_use hF
 refine op (OpS.callP h1 Tryz.func113 rfl rfl rfl rfl (vs:=[v0]) rfl (slices_Clone_byte_byte_ok e2) (.cons (f:=false) (V.at .z) .nil) ?_)
 rintro u2 w2 _ _ _ ⟨_,rfl,rfl,rfl,rfl⟩ h3
 have h4:=h3 rfl rfl
 simp only [ca,na] at h4
 refine ga rfl (nil (Run.seq (sr (op (OpS.fbox (o3:=0) h4 (.s .z) PA.z fa145_0 rfl rfl rfl rfl ?_)))))
 refine op (OpS.loadBi h4 (.s .z) PA.a (Get.fld Fault_.f0) ty3 rfl rfl rfl ?_)
 refine gb rfl (gm rfl ?_)
 refine RunL.join (σ:=Bool) (λ s_ L_ w_=>L_=[(3,u1),(5,u2),(25,.bool s_)]∧St e w_ [] [(false,.box 145 Fault_.rep u1 a1),(true,.slice 5 (Rep.int .u8) u2 y1)]) hF (λ s1 _ w3 hI hF=>?_) (λ j1 hj1 hF=>?_)
 ·obtain ⟨rfl,h5⟩:=hI
  refine Run.ite rfl hF (λ e3 hF=>?_) (λ e3 hF=>?_)
  ·obtain ⟨x1,e4,hF⟩:=bindP_use hF
   refine Run.drawV (Ωs:=[]) [.k 26 u2,.kr 27 (padd u1 1) [0],.kr 28 (.int .i64 a1.Index) [0],.kr 29 (padd (sp u2) ((a1.Index:Int).toNat*(Rep.int .u8).n)) [1],.kr 30 (.int .u8 x1) [1],.kr 31 (padd u1 2) [0],.kr 32 (.int .u8 a1.Mask) [0]] [[],[],[1],[0,2],[3],[],[5]] [[(false,.box 145 Fault_.rep u1 a1)],[(true,.slice 5 (Rep.int .u8) u2 y1)]] [0,1,2,3,4,5,6,7,8] Try_mixed rfl rfl rfl h5 (.cons ?_ (.cons ?_ (.cons ?_ (.cons ?_ (.cons ?_ (.cons ?_ (.cons ?_ .nil))))))) (λ q1 w hq1 h=>?_)
   ·intro q1 w Γx Ωx h
    refine OpS.mv rfl rfl rfl ?_
    exact du h
   ·intro q1 w Γx Ωx h
    refine OpS.fbox (o3:=1) h .z PA.z fa145_1 rfl rfl rfl rfl ?_
    exact du h
   ·intro q1 w Γx Ωx h
    refine OpS.loadBi h .z PA.a (Get.fld Fault_.f1) ty3 rfl rfl rfl ?_
    exact du h
   ·intro q1 w Γx Ωx h
    refine OpS.iown h .z Tryz.underlying24 ty5 rfl rfl rfl rfl e4 ?_
    exact du h
   ·intro q1 w Γx Ωx h
    refine OpS.loadOi h .z (idx_ne e4) PA.a (Get.arr e4) ty5 rfl rfl rfl ?_
    exact du h
   ·intro q1 w Γx Ωx h
    refine OpS.fbox (o3:=2) h .z PA.z fa145_2 rfl rfl rfl rfl ?_
    exact du h
   ·intro q1 w Γx Ωx h
    refine OpS.loadBi h .z PA.a (Get.fld Fault_.f2) ty5 rfl rfl rfl ?_
    exact du h
   have h6:=h
   refine gb rfl (op (OpS.iown h6 (.s .z) Tryz.underlying24 ty5 rfl rfl rfl rfl e4 ?_))
   obtain ⟨d1,e5,hF⟩:=letP_use hF
   refine op (OpS.storeO (f':=true) h6 (.s .z) (idx_ne e4) PA.a (Put.of (Put.arr e4) e5) ty5 rfl rfl rfl V.int (.inl rfl) (λ w4 h7=>?_))
   refine nil (sr (gm rfl (ga rfl (nil (Run.retP rfl (.tmp rfl .nil) ?_)))))
   cases hF
   exact Post.mk' ⟨u2,rfl,rfl,rfl,rfl⟩ (h7.picks (.cons .z .nil)) .nil
  refine Run.skip (sr (gm rfl (ga rfl (nil (Run.retP rfl (.tmp rfl .nil) ?_)))))
  cases hF
  exact Post.mk' ⟨u2,rfl,rfl,rfl,rfl⟩ (h5.picks (.cons (.s .z) .nil)) .nil
 refine RunL.caseb hF (λ e6 hF=>?_) (λ e6 hF=>?_)
 ·refine op (OpS.fbox (o3:=1) h4 (.s .z) PA.z fa145_1 rfl rfl rfl rfl ?_)
  refine op (OpS.loadBi h4 (.s .z) PA.a (Get.fld Fault_.f1) ty3 rfl rfl rfl ?_)
  refine gb rfl (gk rfl (gm rfl ?_))
  refine RunL.caseb hF (λ e7 hF=>?_) (λ e7 hF=>?_)
  ·refine op (OpS.fbox (o3:=1) h4 (.s .z) PA.z fa145_1 rfl rfl rfl rfl ?_)
   refine op (OpS.loadBi h4 (.s .z) PA.a (Get.fld Fault_.f1) ty3 rfl rfl rfl ?_)
   refine gm rfl (op (OpS.lenO h4 .z Tryz.underlying24 rfl rfl rfl ?_))
   refine gb rfl (gk rfl (nil (Run.slim [(3,u1),(5,u2),(25,.bool (decide (a1.Index<(y1.length:Int))))] ⟨rfl,rfl,rfl,trivial⟩ ?_)))
   exact hj1 (decide (a1.Index<(y1.length:Int))) _ _ ⟨rfl,(h4.facts .nil).picks (.cons (.s .z) (.cons .z .nil))⟩ hF
  refine gp rfl (gp rfl (gp rfl (gp rfl (gp rfl (gk rfl (nil (Run.slim [(3,u1),(5,u2),(25,.bool false)] ⟨rfl,rfl,rfl,trivial⟩ ?_)))))))
  exact hj1 (false) _ _ ⟨rfl,(h4.facts .nil).picks (.cons (.s .z) (.cons .z .nil))⟩ hF
 refine gp rfl (gp rfl (gp rfl (gk rfl (gm rfl (gp rfl (gp rfl (gp rfl (gp rfl (gp rfl (gk rfl (nil (Run.slim [(3,u1),(5,u2),(25,.bool false)] ⟨rfl,rfl,rfl,trivial⟩ ?_))))))))))))
 exact hj1 (false) _ _ ⟨rfl,(h4.facts .nil).picks (.cons (.s .z) (.cons .z .nil))⟩ hF
set_option maxRecDepth 20000 in
theorem checksum_OpenCRC8_ok {fuel:Nat} {a0:List Int} {y:(List Int)×Int} (hF:checksum_OpenCRC8 fuel a0=some y) {w:World} {v0:Value} :
  Spec Tryz.prog 136 [v0].toArray w [(false,.val (Rep.slice (Rep.int .u8)) v0 a0)] [] (λ v Γr Ωr Ωo=>∃ u0:Value,v=.tuple #[u0,.int .i64 y.2]∧Γr=[]∧Ωr=[(true,(.slice 5 (Rep.int .u8) u0 y.1))]∧Ωo=[]):=by
 refine Spec.of (L:=[(0,v0)]) Tryz.func136 rfl ⟨rfl,trivial⟩ rfl (λ e h=>?_)
 unfold checksum_OpenCRC8 at hF
 refine sr (ga rfl (ga rfl (nil (sr (gm rfl (op (OpS.len h Tryz.underlying24 rfl rfl rfl (V.at .z) ?_)))))))
 refine gb rfl (ga rfl ?_)
 obtain ⟨x1,e1,hF⟩:=letP_use hF
 refine RunL.name e1 ?_
 refine nil (Run.seq (Run.block (sr (gm rfl (gb rfl (ga rfl ?_))))))
 obtain ⟨x2,e2,hF⟩:=letP_use hF
 refine RunL.nameb e2 ?_
 refine nil ?_
 refine Run.ite rfl hF (λ e3 hF=>?_) (λ e3 hF=>?_)
 ·refine sr (ga rfl (ga rfl (nil ?_)))
  have h1:=St.nil 5 (Rep.int .u8) h
  refine Run.retP rfl (.tmp rfl (.tmp rfl .nil)) ?_
  cases hF
  exact Post.mk' ⟨(.slice none 0 0),rfl,rfl,rfl,rfl⟩ (h1.picks (.cons .z .nil)) .nil
 refine Run.seq ?_
 obtain ⟨x3,e4,hF⟩:=bindP_use hF
 obtain ⟨y1,e5,hF⟩:=bindP_use hF
 obtain ⟨x4,e6,hF⟩:=bindP_use hF
 refine Run.drawV (Ωs:=[]) [.k 12 v0,.k 13 (.int .i64 x1),.f 14 (λ u_=>[(false,.val (Rep.slice (Rep.int .u8)) u_ x3)]),.k 15 (.int .u8 y1),.k 16 v0,.k 17 (.int .i64 x1),.f 18 (λ u_=>[(false,.ptr (Rep.int .u8) u_ x4)]),.k 19 (.int .u8 x4)] [[],[],[0,1],[2],[],[],[4,5],[6]] [] [0,1,2,3,4,5,6,7] Try_mixed rfl rfl rfl h (.cons ?_ (.cons ?_ (.cons ?_ (.cons ?_ (.cons ?_ (.cons ?_ (.cons ?_ (.cons ?_ .nil)))))))) (λ q1 w hq1 h=>?_)
 ·intro q1 w Γx Ωx h
  refine OpS.mv rfl rfl rfl ?_
  exact du h
 ·intro q1 w Γx Ωx h
  refine OpS.mv rfl rfl rfl ?_
  exact du h
 ·intro q1 w Γx Ωx h
  refine OpS.sub h Tryz.underlying24 ty5 rfl rfl rfl rfl rfl (V.at .z) e4 (λ u h6=>?_)
  exact ⟨u,rfl,trivial,h6⟩
 ·intro q1 w Γx Ωx h
  refine OpS.callP h Tryz.func197 rfl rfl rfl rfl (vs:=[(q1 2)]) rfl (checksum_CRC8_ok e5) (.cons (f:=false) (V.at .z) .nil) ?_
  rintro _ w2 _ _ _ ⟨rfl,rfl,rfl,rfl⟩ h7
  have h8:=h7 rfl rfl
  simp only [ca,na] at h8
  exact ⟨undef,rfl,trivial,h8⟩
 ·intro q1 w Γx Ωx h
  refine OpS.mv rfl rfl rfl ?_
  exact du h
 ·intro q1 w Γx Ωx h
  refine OpS.mv rfl rfl rfl ?_
  exact du h
 ·intro q1 w Γx Ωx h
  refine OpS.iptr h Tryz.underlying24 ty5 rfl rfl rfl rfl (V.at .z) e6 (λ u h9=>?_)
  exact ⟨u,rfl,trivial,h9⟩
 ·intro q1 w Γx Ωx h
  refine OpS.loadi h ty5 rfl rfl rfl .z ?_
  exact du h
 have h10:=h
 refine gb rfl (ga rfl ?_)
 obtain ⟨x5,e7,hF⟩:=letP_use hF
 refine RunL.nameb e7 ?_
 refine nil ?_
 refine Run.ite rfl hF (λ e8 hF=>?_) (λ e8 hF=>?_)
 ·refine sr (ga rfl (ga rfl (nil ?_)))
  have h11:=St.nil 5 (Rep.int .u8) h10
  refine Run.retP rfl (.tmp rfl (.tmp rfl .nil)) ?_
  cases hF
  exact Post.mk' ⟨(.slice none 0 0),rfl,rfl,rfl,rfl⟩ (h11.picks (.cons .z .nil)) .nil
 refine Run.skip (Run.endBlock (sr (gm rfl (gm rfl ?_))))
 obtain ⟨x6,e9,hF⟩:=bindP_use hF
 refine op (OpS.sub h10 Tryz.underlying24 ty5 rfl rfl rfl rfl rfl (V.at (.s (.s .z))) e9 (λ u1 h12=>?_))
 obtain ⟨y2,e10,hF⟩:=bindP_use hF
 refine op (OpS.callP h12 Tryz.func113 rfl rfl rfl rfl (vs:=[u1]) rfl (slices_Clone_byte_byte_ok e10) (.cons (f:=false) (V.at .z) .nil) ?_)
 rintro u2 w3 _ _ _ ⟨_,rfl,rfl,rfl,rfl⟩ h13
 have h14:=h13 rfl rfl
 simp only [ca,na] at h14
 refine ga rfl (ga rfl (nil (Run.retP rfl (.tmp rfl (.tmp rfl .nil)) ?_)))
 cases hF
 exact Post.mk' ⟨u2,rfl,rfl,rfl,rfl⟩ (h14.picks (.cons .z .nil)) .nil
set_option maxHeartbeats 8000000 in set_option maxRecDepth 20000 in
theorem frame_Decode_ok {fuel:Nat} {a0:List Int} {y:Frame_×Int} (hF:frame_Decode fuel a0=some y) {w:World} {v0:Value} :
  Spec Tryz.prog 62 [v0].toArray w [(false,.val (Rep.slice (Rep.int .u8)) v0 a0)] [] (λ v Γr Ωr Ωo=>∃ u0:Value,v=.tuple #[u0,.int .i64 y.2]∧Γr=[(true,.val Frame_.rep u0 y.1)]∧Ωr=[]∧Ωo=[]):=by
 refine Spec.of (L:=[(0,v0)]) Tryz.func62 rfl ⟨rfl,trivial⟩ rfl (λ e h=>?_)
 unfold frame_Decode at hF
 refine sr (op (OpS.alloc h ti142 Frame_.zr rfl rfl (λ u1 w1 h1=>?_)))
 refine ga rfl (nil (Run.seq (sr (gm rfl (op (OpS.len h1 Tryz.underlying24 rfl rfl rfl (V.at .z) ?_))))))
 refine gb rfl (nil ?_)
 refine Run.ite rfl hF (λ e1 hF=>?_) (λ e1 hF=>?_)
 ·refine sr (op (OpS.build (f:=true) (x':=Frame_.z) h1 pl142 ti142 Frame_.zr rfl rfl rfl .nil (λ u2 h2=>?_)))
  refine op (OpS.storeB (f':=true) h2 .z PA.z Put.id ty142 rfl rfl rfl (V.at .z) (.inl rfl) (λ w2 h3=>?_))
  refine ga rfl (nil ?_)
  obtain ⟨u3,hu1,h4⟩:=res_box h3 .z ty142
  refine Run.retP rfl (.cell rfl hu1 (.tmp rfl .nil)) ?_
  cases hF
  exact Post.mk' ⟨u3,rfl,rfl,rfl,rfl⟩ (h4.picks .nil) (.val (V.at .z) .nil)
 refine Run.skip (sr (gm rfl (op (OpS.len h1 Tryz.underlying24 rfl rfl rfl (V.at .z) ?_))))
 refine ga rfl (nil (sr (gm rfl ?_)))
 obtain ⟨y1,e2,hF⟩:=bindP_use hF
 refine op (OpS.callP h1 Tryz.func136 rfl rfl rfl rfl (vs:=[v0]) rfl (checksum_OpenCRC8_ok e2) (.cons (f:=false) (V.at .z) .nil) ?_)
 rintro _ w3 _ _ _ ⟨u4,rfl,rfl,rfl,rfl⟩ h5
 have h6:=h5 rfl rfl
 simp only [ca,na] at h6
 refine gm rfl (op (OpS.ext rfl rfl rfl rfl ?_))
 refine op (OpS.ext rfl rfl rfl rfl ?_)
 refine ga rfl ?_
 have h7:=(h6.pick .z).freeze
 refine ga rfl (nil (Run.seq (sr (gm rfl (gb rfl (nil ?_))))))
 refine Run.ite rfl hF (λ e3 hF=>?_) (λ e3 hF=>?_)
 ·refine sr (op (OpS.build (f:=true) (x':=Frame_.z) h7 pl142 ti142 Frame_.zr rfl rfl rfl .nil (λ u5 h8=>?_)))
  refine gm rfl (op (OpS.storeB (f':=true) h8 .z PA.z Put.id ty142 rfl rfl rfl (V.at .z) (.inl rfl) (λ w4 h9=>?_)))
  refine ga rfl (nil ?_)
  obtain ⟨u6,hu2,h10⟩:=res_box h9 .z ty142
  refine Run.retP rfl (.cell rfl hu2 (.tmp rfl .nil)) ?_
  cases hF
  exact Post.mk' ⟨u6,rfl,rfl,rfl,rfl⟩ (h10.picks .nil) (.val (V.at .z) .nil)
 refine Run.skip (Run.seq ?_)
 obtain ⟨x1,e4,hF⟩:=bindP_use hF
 obtain ⟨x2,e5,hF⟩:=bindP_use hF
 obtain ⟨x3,e6,hF⟩:=bindP_use hF
 obtain ⟨y2,e7,hF⟩:=bindP_use hF
 refine Run.drawV (Ωs:=[(true,.box 142 Frame_.rep u1 Frame_.z)]) [.k 22 u4,.f 23 (λ u_=>[(true,.ptr (Rep.int .u8) u_ x1)]),.k 24 (.int .u8 x1),.k 25 (.int .u8 (IntKind.u8.wrap (Int.tdiv x1 2))),.k 26 u4,.f 27 (λ u_=>[(true,.ptr (Rep.int .u8) u_ x2)]),.k 28 (.int .u8 x2),.k 29 (.int .u8 (IntKind.u8.wrap (Int.tdiv x2 2))),.k 30 u4,.f 31 (λ u_=>[(true,.val (Rep.slice (Rep.int .u8)) u_ x3)]),.f 32 (λ u_=>[(true,.val (Rep.slice (Rep.int .u8)) u_ y2)]),.f 33 (λ u_=>[(true,.val Frame_.rep u_ (⟨(IntKind.u8.wrap (Int.tdiv x1 2)),(IntKind.u8.wrap (Int.tdiv x2 2)),y2⟩:Frame_))]),⟨some 6,none,λ u_=>[],λ ds_ u_=>[(true,.box 142 Frame_.rep u_ Frame_.z)],[],[],none⟩] [[],[0],[1],[2],[],[4],[5],[6],[],[8],[9],[3,7,10],[]] [] [0,1,2,3,4,5,6,7,8,9,10,11,12] Try_mixed rfl rfl rfl h7 (.cons ?_ (.cons ?_ (.cons ?_ (.cons ?_ (.cons ?_ (.cons ?_ (.cons ?_ (.cons ?_ (.cons ?_ (.cons ?_ (.cons ?_ (.cons ?_ (.cons ?_ .nil))))))))))))) (λ q1 w hq1 h=>?_)
 ·intro q1 w Γx Ωx h
  refine OpS.mv rfl rfl rfl ?_
  exact du h
 ·intro q1 w Γx Ωx h
  refine OpS.iptr h Tryz.underlying24 ty5 rfl rfl rfl rfl (V.at .z) e4 (λ u h19=>?_)
  exact ⟨u,rfl,trivial,h19⟩
 ·intro q1 w Γx Ωx h
  refine OpS.loadi h ty5 rfl rfl rfl .z ?_
  exact du h
 ·intro q1 w Γx Ωx h
  refine OpS.quo rfl rfl rfl rfl (by decide) ?_
  exact du h
 ·intro q1 w Γx Ωx h
  refine OpS.mv rfl rfl rfl ?_
  exact du h
 ·intro q1 w Γx Ωx h
  refine OpS.iptr h Tryz.underlying24 ty5 rfl rfl rfl rfl (V.at .z) e5 (λ u h20=>?_)
  exact ⟨u,rfl,trivial,h20⟩
 ·intro q1 w Γx Ωx h
  refine OpS.loadi h ty5 rfl rfl rfl .z ?_
  exact du h
 ·intro q1 w Γx Ωx h
  refine OpS.quo rfl rfl rfl rfl (by decide) ?_
  exact du h
 ·intro q1 w Γx Ωx h
  refine OpS.mv rfl rfl rfl ?_
  exact du h
 ·intro q1 w Γx Ωx h
  refine OpS.sub h Tryz.underlying24 ty5 rfl rfl rfl rfl rfl (V.at .z) e6 (λ u h21=>?_)
  exact ⟨u,rfl,trivial,h21⟩
 ·intro q1 w Γx Ωx h
  refine OpS.callP h Tryz.func113 rfl rfl rfl rfl (vs:=[(q1 9)]) rfl (slices_Clone_byte_byte_ok e7) (.cons (f:=true) (V.at .z) .nil) ?_
  rintro u w7 _ _ _ ⟨_,rfl,rfl,rfl,rfl⟩ h22
  have h23:=h22 rfl rfl
  simp only [ca,na] at h23
  have h24:=h23.freeze
  exact ⟨u,rfl,trivial,h24⟩
 ·intro q1 w Γx Ωx h
  refine OpS.build (f:=true) (x':=(⟨(IntKind.u8.wrap (Int.tdiv x1 2)),(IntKind.u8.wrap (Int.tdiv x2 2)),y2⟩:Frame_)) h pl142 ti142 Frame_.zr rfl rfl rfl (.cons rfl Frame_.f0 rfl V.int (.cons rfl Frame_.f1 rfl V.int (.cons rfl Frame_.f2 rfl (V.at .z) .nil))) (λ u h25=>?_)
  exact ⟨u,rfl,trivial,h25⟩
 ·intro q1 w Γx Ωx h
  refine OpS.alloc h ti142 Frame_.zr rfl rfl (λ u w8 h26=>?_)
  exact ⟨u,rfl,trivial,h26⟩
 have h27:=h
 refine op (OpS.storeB (f':=true) h27 .z PA.z Put.id ty142 rfl rfl rfl (V.at (.s (.s (.s (.s .z))))) (.inl rfl) (λ w9 h28=>?_))
 refine nil (Run.seq (Run.block (sr (gm rfl ?_))))
 obtain ⟨x4,e8,hF⟩:=bindP_use hF
 refine op (OpS.iptr h28 Tryz.underlying24 ty5 rfl rfl rfl rfl (V.at (.s (.s (.s (.s (.s .z)))))) e8 (λ u7 h29=>?_))
 refine op (OpS.loadi h29 ty5 rfl rfl rfl .z ?_)
 refine op (OpS.rem rfl rfl rfl rfl (by decide) ?_)
 refine gb rfl (gm rfl ?_)
 refine RunL.join (σ:=Bool) (λ s_ L_ w_=>L_=[(2,u1),(6,(q1 12)),(34,.bool s_)]∧St e w_ [] [(true,.box 142 Frame_.rep u1 Frame_.z),(true,.box 142 Frame_.rep (q1 12) (⟨(IntKind.u8.wrap (Int.tdiv x1 2)),(IntKind.u8.wrap (Int.tdiv x2 2)),y2⟩:Frame_))]) hF (λ s1 _ w10 hI hF=>?_) (λ j1 hj1 hF=>?_)
 ·obtain ⟨rfl,h30⟩:=hI
  refine Run.ite rfl hF (λ e9 hF=>?_) (λ e9 hF=>?_)
  ·refine sr (op (OpS.build (f:=true) (x':=Frame_.z) h30 pl142 ti142 Frame_.zr rfl rfl rfl .nil (λ u8 h31=>?_)))
   refine op (OpS.storeB (f':=true) h31 .z PA.z Put.id ty142 rfl rfl rfl (V.at .z) (.inl rfl) (λ w11 h32=>?_))
   refine ga rfl (nil ?_)
   obtain ⟨u9,hu3,h33⟩:=res_box h32 .z ty142
   refine Run.retP rfl (.cell rfl hu3 (.tmp rfl .nil)) ?_
   cases hF
   exact Post.mk' ⟨u9,rfl,rfl,rfl,rfl⟩ (h33.picks .nil) (.val (V.at .z) .nil)
  refine sr (op (OpS.fbox (o3:=0) h30 (.s .z) PA.z fa142_0 rfl rfl rfl rfl ?_))
  refine op (OpS.loadBi h30 (.s .z) PA.a (Get.fld Frame_.f0) ty5 rfl rfl rfl ?_)
  obtain ⟨y3,e10,hF⟩:=bindP_use hF
  refine op (OpS.callP h30 Tryz.func137 rfl rfl rfl rfl (vs:=[.int .u8 (IntKind.u8.wrap (Int.tdiv x1 2))]) rfl (frame_address_ok e10) .nil ?_)
  rintro _ w12 _ _ _ ⟨rfl,rfl,rfl,rfl⟩ h34
  have h35:=h34 rfl rfl
  simp only [ca,na] at h35
  refine op (OpS.not rfl rfl rfl ?_)
  refine gm rfl ?_
  refine RunL.join (σ:=Bool) (λ s_ L_ w_=>L_=[(2,u1),(6,(q1 12)),(63,.bool s_)]∧St e w_ [] [(true,.box 142 Frame_.rep u1 Frame_.z),(true,.box 142 Frame_.rep (q1 12) (⟨(IntKind.u8.wrap (Int.tdiv x1 2)),(IntKind.u8.wrap (Int.tdiv x2 2)),y2⟩:Frame_))]) hF (λ s2 _ w13 hI hF=>?_) (λ j2 hj2 hF=>?_)
  ·obtain ⟨rfl,h36⟩:=hI
   refine Run.ite rfl hF (λ e11 hF=>?_) (λ e11 hF=>?_)
   ·refine sr (op (OpS.build (f:=true) (x':=Frame_.z) h36 pl142 ti142 Frame_.zr rfl rfl rfl .nil (λ u10 h37=>?_)))
    refine op (OpS.storeB (f':=true) h37 .z PA.z Put.id ty142 rfl rfl rfl (V.at .z) (.inl rfl) (λ w14 h38=>?_))
    refine ga rfl (nil ?_)
    obtain ⟨u11,hu4,h39⟩:=res_box h38 .z ty142
    refine Run.retP rfl (.cell rfl hu4 (.tmp rfl .nil)) ?_
    cases hF
    exact Post.mk' ⟨u11,rfl,rfl,rfl,rfl⟩ (h39.picks .nil) (.val (V.at .z) .nil)
   refine sr (op (OpS.fbox (o3:=2) h36 (.s .z) PA.z fa142_2 rfl rfl rfl rfl ?_))
   refine op (OpS.loadB h36 (.s .z) PA.a (Get.fld Frame_.f2) ty24 rfl rfl rfl (λ u12 h40=>?_))
   refine op (OpS.len h40 Tryz.underlying24 rfl rfl rfl (V.at .z) ?_)
   refine gb rfl (ga rfl ?_)
   obtain ⟨x5,e12,hF⟩:=letP_use hF
   refine RunL.nameb e12 ?_
   refine nil ?_
   refine Run.ite rfl hF (λ e13 hF=>?_) (λ e13 hF=>?_)
   ·refine sr (op (OpS.build (f:=true) (x':=Frame_.z) h40 pl142 ti142 Frame_.zr rfl rfl rfl .nil (λ u13 h41=>?_)))
    refine op (OpS.storeB (f':=true) h41 .z PA.z Put.id ty142 rfl rfl rfl (V.at .z) (.inl rfl) (λ w15 h42=>?_))
    refine ga rfl (nil ?_)
    obtain ⟨u14,hu5,h43⟩:=res_box h42 .z ty142
    refine Run.retP rfl (.cell rfl hu5 (.tmp rfl .nil)) ?_
    cases hF
    exact Post.mk' ⟨u14,rfl,rfl,rfl,rfl⟩ (h43.picks .nil) (.val (V.at .z) .nil)
   refine Run.skip (Run.endBlock (sr (op (OpS.loadB h40 (.s .z) PA.z Get.id ty142 rfl rfl rfl (λ u15 h44=>?_)))))
   refine op (OpS.storeB (f':=true) h44 .z PA.z Put.id ty142 rfl rfl rfl (V.at .z) (.inl rfl) (λ w16 h45=>?_))
   refine ga rfl (nil ?_)
   obtain ⟨u16,hu6,h46⟩:=res_box h45 .z ty142
   refine Run.retP rfl (.cell rfl hu6 (.tmp rfl .nil)) ?_
   cases hF
   exact Post.mk' ⟨u16,rfl,rfl,rfl,rfl⟩ (h46.picks .nil) (.val (V.at .z) .nil)
  refine RunL.caseb hF (λ e14 hF=>?_) (λ e14 hF=>?_)
  ·refine gp rfl (gp rfl (gp rfl (gp rfl (gk rfl (ga rfl (nil (Run.slim [(2,u1),(6,(q1 12)),(63,.bool true)] ⟨rfl,rfl,rfl,trivial⟩ ?_)))))))
   exact hj2 (true) _ _ ⟨rfl,(h35.facts .nil).picks (.cons .z (.cons .z .nil))⟩ hF
  refine op (OpS.fbox (o3:=1) h35 (.s .z) PA.z fa142_1 rfl rfl rfl rfl ?_)
  refine op (OpS.loadBi h35 (.s .z) PA.a (Get.fld Frame_.f1) ty5 rfl rfl rfl ?_)
  obtain ⟨y4,e15,hF⟩:=bindP_use hF
  refine op (OpS.callP h35 Tryz.func137 rfl rfl rfl rfl (vs:=[.int .u8 (IntKind.u8.wrap (Int.tdiv x2 2))]) rfl (frame_address_ok e15) .nil ?_)
  rintro _ w17 _ _ _ ⟨rfl,rfl,rfl,rfl⟩ h47
  have h48:=h47 rfl rfl
  simp only [ca,na] at h48
  refine op (OpS.not rfl rfl rfl ?_)
  refine gk rfl (ga rfl ?_)
  obtain ⟨x6,e16,hF⟩:=letP_use hF
  refine RunL.nameb e16 ?_
  refine nil (Run.slim [(2,u1),(6,(q1 12)),(63,.bool x6)] ⟨rfl,rfl,rfl,trivial⟩ ?_)
  exact hj2 (x6) _ _ ⟨rfl,(h48.facts .nil).picks (.cons .z (.cons .z .nil))⟩ hF
 refine RunL.caseb hF (λ e17 hF=>?_) (λ e17 hF=>?_)
 ·refine gp rfl (gp rfl (gp rfl (gp rfl (gk rfl (gm rfl (gp rfl (gp rfl (gp rfl (gp rfl (gp rfl (gp rfl (gp rfl (gk rfl (gm rfl (gp rfl (gp rfl ?_))))))))))))))))
  refine gp rfl (gp rfl (gp rfl (gk rfl (ga rfl (nil (Run.slim [(34,.bool true),(6,(q1 12)),(2,u1)] ⟨rfl,rfl,rfl,trivial⟩ ?_))))))
  refine Run.slim [(2,u1),(6,(q1 12)),(34,.bool true)] ⟨rfl,rfl,rfl,trivial⟩ ?_
  exact hj1 (true) _ _ ⟨rfl,(h29.facts .nil).picks (.cons (.s .z) (.cons .z .nil))⟩ hF
 refine gm rfl ?_
 obtain ⟨x7,e18,hF⟩:=bindP_use hF
 refine op (OpS.iptr h29 Tryz.underlying24 ty5 rfl rfl rfl rfl (V.at (.s (.s (.s (.s (.s (.s .z))))))) e18 (λ u17 h49=>?_))
 refine op (OpS.loadi h49 ty5 rfl rfl rfl .z ?_)
 refine gb rfl (gk rfl (gm rfl ?_))
 refine RunL.caseb hF (λ e19 hF=>?_) (λ e19 hF=>?_)
 ·refine gp rfl (gp rfl (gp rfl (gp rfl (gp rfl (gp rfl (gp rfl (gk rfl (gm rfl (gp rfl (gp rfl (gp rfl (gp rfl (gp rfl (gk rfl (ga rfl (nil ?_))))))))))))))))
  refine Run.slim [(34,.bool true),(6,(q1 12)),(2,u1)] ⟨rfl,rfl,rfl,trivial⟩ ?_
  refine Run.slim [(2,u1),(6,(q1 12)),(34,.bool true)] ⟨rfl,rfl,rfl,trivial⟩ ?_
  exact hj1 (true) _ _ ⟨rfl,(h49.facts .nil).picks (.cons (.s .z) (.cons .z .nil))⟩ hF
 refine gm rfl ?_
 obtain ⟨x8,e20,hF⟩:=bindP_use hF
 refine op (OpS.iptr h49 Tryz.underlying24 ty5 rfl rfl rfl rfl (V.at (.s (.s (.s (.s (.s (.s (.s .z)))))))) e20 (λ u18 h50=>?_))
 refine op (OpS.loadi h50 ty5 rfl rfl rfl .z ?_)
 refine op (OpS.conv Tryz.underlying5 Tryz.underlying3 rfl rfl rfl ?_)
 refine gm rfl (gb rfl (gb rfl (gk rfl (gm rfl ?_))))
 refine RunL.caseb hF (λ e21 hF=>?_) (λ e21 hF=>?_)
 ·refine gp rfl (gp rfl (gp rfl (gp rfl (gp rfl (gk rfl (ga rfl (nil (Run.slim [(34,.bool true),(6,(q1 12)),(2,u1)] ⟨rfl,rfl,rfl,trivial⟩ ?_))))))))
  refine Run.slim [(2,u1),(6,(q1 12)),(34,.bool true)] ⟨rfl,rfl,rfl,trivial⟩ ?_
  exact hj1 (true) _ _ ⟨rfl,(h50.facts .nil).picks (.cons (.s .z) (.cons .z .nil))⟩ hF
 refine gm rfl ?_
 obtain ⟨x9,e22,hF⟩:=bindP_use hF
 refine op (OpS.iptr h50 Tryz.underlying24 ty5 rfl rfl rfl rfl (V.at (.s (.s (.s (.s (.s (.s (.s (.s .z))))))))) e22 (λ u19 h51=>?_))
 refine op (OpS.loadi h51 ty5 rfl rfl rfl .z ?_)
 refine op (OpS.rem rfl rfl rfl rfl (by decide) ?_)
 refine gb rfl (gk rfl (ga rfl ?_))
 obtain ⟨x10,e23,hF⟩:=letP_use hF
 refine RunL.nameb e23 ?_
 refine nil (Run.slim [(34,.bool x10),(6,(q1 12)),(2,u1)] ⟨rfl,rfl,rfl,trivial⟩ ?_)
 refine Run.slim [(2,u1),(6,(q1 12)),(34,.bool x10)] ⟨rfl,rfl,rfl,trivial⟩ ?_
 exact hj1 (x10) _ _ ⟨rfl,(h51.facts .nil).picks (.cons (.s .z) (.cons .z .nil))⟩ hF
theorem bus_Bus_Step_1_2_ok {fuel:Nat} {a0:Int} {a1:bus_Bus} {y:(List Int)} (hF:bus_Bus_Step_1_2 fuel a0 a1=some y) {w:World} {v1c v1c_0 v1:Value} :
  Spec Tryz.prog 131 [.int .i64 a0,v1].toArray w [(false,.ptr (Rep.raw (α:=Unit) (v1c)) v1 ())] [(false,.box 241 (bus_Bus.repW v1c_0) v1c a1),(false,.oval (oslice 256 3 (λ _=>bus_master.orep)) v1c_0 a1.masters)] (λ v Γr Ωr Ωo=>∃ u0:Value,v=u0∧Γr=[(false,.val (Rep.slice (Rep.int .u8)) u0 y)]∧Ωr=[]∧Ωo=[(false,.box 241 (bus_Bus.repW v1c_0) v1c a1),(false,(.oval (oslice 256 3 (λ _=>bus_master.orep)) v1c_0 a1.masters))]):=by
 refine Spec.of (L:=[(0,.int .i64 a0),(1,v1)]) Tryz.func131 rfl ⟨rfl,rfl,trivial⟩ rfl (λ e h=>?_)
 unfold bus_Bus_Step_1_2 at hF
 refine sr (ga rfl (nil (sr (op (OpS.loadPR h tyf120 rfl rfl rfl .z ?_)))))
 refine op (OpS.nchk h .z rfl rfl rfl ?_)
 refine op (OpS.fbox (o3:=0) h .z PA.z fa241_0 rfl rfl rfl rfl ?_)
 refine op (OpS.loadR h .z PA.a (GetS.ok (GetS.iso _ (GetS.here GetS.id))) ty239 rfl rfl rfl rfl rfl ?_)
 refine gm rfl ?_
 obtain ⟨x1,e1,hF⟩:=bindP_use hF
 refine op (OpS.iownD h (.s .z) Tryz.underlying239 sz256 rfl rfl rfl rfl e1 ?_)
 refine op (OpS.fownD h (.s .z) (idx_ne e1) PA.a fa256_0 rfl rfl rfl ?_)
 refine op (OpS.openO (F':=λ v_=>at' (λ _=>bus_master.orep) (a0).toNat (bus_master.orepW (raw v_))) (hn:=λ _=>rfl) (hn':=λ _=>at_hn rfl rfl) h (.s .z) (idx_ne e1) PA.a (λ v_=>Len.comp (Len.arrOpen e1) (bus_master.lenO v_)) rfl ty170 rfl rfl rfl rfl (λ u1 h1=>?_))
 obtain ⟨x2,e2,hF⟩:=bindP_use hF
 refine op (OpS.iownD h1 (.s .z) Tryz.underlying170 sz24 rfl rfl rfl rfl e2 ?_)
 refine op (OpS.loadS h1 (.s .z) Wk.sh rfl (idx_ne e2) PA.a (Get.arr e2) ty24 rfl rfl rfl (λ u2 h2=>?_))
 refine ga rfl (nil ?_)
 have h3:=St.shutS (F:=(at' (λ _=>bus_master.orep) (a0).toNat (bus_master.orepW (raw u1)))) (F2:=λ _=>bus_master.orep) (hn:=at_hn rfl rfl) (hn2:=λ _=>rfl) (h2.front (.cons .z (.cons .z .nil))) (.inr rfl) (idx_ne e1) (Len.comp (Len.arrShut e1) (bus_master.lenC u1)) rfl
 refine Run.retP rfl (.tmp rfl .nil) ?_
 cases hF
 exact Post.mk' ⟨u2,rfl,rfl,rfl,rfl⟩ (h3.picks (.cons (.s .z) (.cons .z .nil))) (.val (V.at .z) .nil)
set_option maxRecDepth 20000 in
theorem bus_Bus_Step_2_2_ok {fuel:Nat} {a0:Int} {a1:Int} {a2_0:bus_Bus} {y:Int} (hF:bus_Bus_Step_2_2 fuel a0 a1 a2_0=some y) {w:World} {v2c_0c v2c_0c_0 v2c_0 v2:Value} :
  Spec Tryz.prog 133 [.int .i64 a0,.int .i64 a1,v2].toArray w [(false,.ptr (Rep.raw (α:=Unit) (v2c_0c)) v2c_0 ()),(false,.ptr (Rep.raw (α:=Unit) (.func (.func 131) #[] #[v2c_0])) v2 ())] [(false,.box 241 (bus_Bus.repW v2c_0c_0) v2c_0c a2_0),(false,.oval (oslice 256 3 (λ _=>bus_master.orep)) v2c_0c_0 a2_0.masters)] (λ v Γr Ωr Ωo=>v=.int .i64 y∧Γr=[]∧Ωr=[]∧Ωo=[(false,.box 241 (bus_Bus.repW v2c_0c_0) v2c_0c a2_0),(false,(.oval (oslice 256 3 (λ _=>bus_master.orep)) v2c_0c_0 a2_0.masters))]):=by
 refine Spec.of (L:=[(0,.int .i64 a0),(1,.int .i64 a1),(2,v2)]) Tryz.func133 rfl ⟨rfl,rfl,rfl,trivial⟩ rfl (λ e h=>?_)
 unfold bus_Bus_Step_2_2 at hF
 refine sr (ga rfl (nil (Run.seq ?_)))
 obtain ⟨y1,e1,hF⟩:=bindP_use hF
 refine Run.drawV (Ωs:=[]) [.k 6 (.func (.func 131) #[] #[v2c_0]),.k 7 (.int .i64 a0),.fr 8 (λ u_=>[(false,.val (Rep.slice (Rep.int .u8)) u_ y1)]) [0,1],.k 9 (.func (.func 131) #[] #[v2c_0]),.k 10 (.int .i64 a1)] [[],[],[1,0],[],[]] [[(false,.box 241 (bus_Bus.repW v2c_0c_0) v2c_0c a2_0)],[(false,.oval (oslice 256 3 (λ _=>bus_master.orep)) v2c_0c_0 a2_0.masters)]] [0,1,2,3,4,5,6] Try_mixed rfl rfl rfl h (.cons ?_ (.cons ?_ (.cons ?_ (.cons ?_ (.cons ?_ .nil))))) (λ q1 w hq1 h=>?_)
 ·intro q1 w Γx Ωx h
  refine OpS.loadPR h tyf132 rfl rfl rfl (.s .z) ?_
  exact du h
 ·intro q1 w Γx Ωx h
  refine OpS.mv rfl rfl rfl ?_
  exact du h
 ·intro q1 w Γx Ωx h
  have h4:=h.front (.cons .z (.cons .z .nil))
  refine OpS.callOF (fl:=[]) (cl:=[v2c_0]) h4 Tryz.func131 rfl rfl rfl rfl rfl (vs:=[.int .i64 a0]) rfl (bus_Bus_Step_1_2_ok e1) rfl (.ptr .z .nil) ?_
  rintro u w2 _ _ _ ⟨_,rfl,rfl,rfl,rfl⟩ h5
  have h6:=h5
  simp only [ca,na] at h6
  exact ⟨u,rfl,trivial,h6⟩
 ·intro q1 w Γx Ωx h
  refine OpS.loadPR h tyf132 rfl rfl rfl (.s .z) ?_
  exact du h
 ·intro q1 w Γx Ωx h
  refine OpS.mv rfl rfl rfl ?_
  exact du h
 have h7:=h
 obtain ⟨y2,e2,hF⟩:=bindP_use hF
 have h8:=h7.front (.cons .z (.cons .z .nil))
 refine op (OpS.callOF (fl:=[]) (cl:=[v2c_0]) h8 Tryz.func131 rfl rfl rfl rfl rfl (vs:=[.int .i64 a1]) rfl (bus_Bus_Step_1_2_ok e2) rfl (.ptr (.s .z) .nil) ?_)
 rintro u1 w3 _ _ _ ⟨_,rfl,rfl,rfl,rfl⟩ h9
 have h10:=h9
 simp only [ca,na] at h10
 obtain ⟨y3,e3,hF⟩:=bindP_use hF
 refine op (OpS.callP h10 Tryz.func134 rfl rfl rfl rfl (vs:=[(q1 2),u1]) rfl (frame_Compare_ok e3) (.cons (f:=false) (V.at (.s .z)) (.cons (f:=false) (V.at .z) .nil)) ?_)
 rintro _ w4 _ _ _ ⟨rfl,rfl,rfl,rfl⟩ h11
 have h12:=h11 rfl rfl
 simp only [ca,na] at h12
 refine ga rfl (nil (Run.retP rfl (.tmp rfl .nil) ?_))
 cases hF
 exact Post.mk' ⟨rfl,rfl,rfl,rfl⟩ (h12.picks (.cons .z (.cons .z .nil))) .nil
theorem slices_MinFunc_int_int_bus_Bus_Step_2_ok {fuel:Nat} {a0:List Int} {a1_0_0:bus_Bus} {y:Int} (hF:slices_MinFunc_int_int_bus_Bus_Step_2 fuel a0 a1_0_0=some y) {w:World} {v0 v1_0c_0c v1_0c_0c_0 v1_0c_0 v1_0:Value} :
  Spec Tryz.prog 132 [v0,.func (.func 133) #[] #[v1_0]].toArray w [(false,.val (Rep.slice (Rep.int .i64)) v0 a0),(false,.ptr (Rep.raw (α:=Unit) (v1_0c_0c)) v1_0c_0 ()),(false,.ptr (Rep.raw (α:=Unit) (.func (.func 131) #[] #[v1_0c_0])) v1_0 ())] [(false,.box 241 (bus_Bus.repW v1_0c_0c_0) v1_0c_0c a1_0_0),(false,.oval (oslice 256 3 (λ _=>bus_master.orep)) v1_0c_0c_0 a1_0_0.masters)] (λ v Γr Ωr Ωo=>v=.int .i64 y∧Γr=[]∧Ωr=[]∧Ωo=[(false,.box 241 (bus_Bus.repW v1_0c_0c_0) v1_0c_0c a1_0_0),(false,(.oval (oslice 256 3 (λ _=>bus_master.orep)) v1_0c_0c_0 a1_0_0.masters))]):=by
 refine Spec.of (L:=[(0,v0),(1,.func (.func 133) #[] #[v1_0])]) Tryz.func132 rfl ⟨rfl,rfl,trivial⟩ rfl (λ e h=>?_)
 unfold slices_MinFunc_int_int_bus_Bus_Step_2 at hF
 refine sr (ga rfl (nil (Run.seq (sr (gm rfl (op (OpS.len h Tryz.underlying22 rfl rfl rfl (V.at .z) ?_)))))))
 refine gb rfl (nil ?_)
 refine Run.ite rfl hF (λ e1 hF=>?_) (λ e1 hF=>?_)
 ·refine Run.reg ?_
  cases hF
 refine Run.skip (sr (gm rfl ?_))
 obtain ⟨x1,e2,hF⟩:=bindP_use hF
 refine op (OpS.iptr h Tryz.underlying22 ty3 rfl rfl rfl rfl (V.at .z) e2 (λ u1 h1=>?_))
 refine op (OpS.loadi h1 ty3 rfl rfl rfl .z ?_)
 refine ga rfl (nil (Run.seq (sr (ga rfl (nil (Run.block (Run.slim [(0,v0),(1,.func (.func 133) #[] #[v1_0]),(5,.int .i64 x1),(6,.int .i64 1)] ⟨rfl,rfl,rfl,rfl,trivial⟩ ?_)))))))
 refine Run.loopP (σ:=(Int×Int)) (λ s_ L_ w_=>L_=[(0,v0),(1,.func (.func 133) #[] #[v1_0]),(5,.int .i64 s_.1),(6,.int .i64 s_.2)]∧St e w_ [(false,.val (Rep.slice (Rep.int .i64)) v0 a0),(false,.ptr (Rep.raw (α:=Unit) (v1_0c_0c)) v1_0c_0 ()),(false,.ptr (Rep.raw (α:=Unit) (.func (.func 131) #[] #[v1_0c_0])) v1_0 ())] [(false,.box 241 (bus_Bus.repW v1_0c_0c_0) v1_0c_0c a1_0_0),(false,.oval (oslice 256 3 (λ _=>bus_master.orep)) v1_0c_0c_0 a1_0_0.masters)]) hF ⟨rfl,(h1.facts (.atm (.s .z) (.atm (.s (.s .z)) (.atm (.s (.s (.s .z))) .nil)))).picks (.cons .z (.cons .z .nil))⟩ (λ k1 hk1 s1 _ w1 hI hF=>?_)
 obtain ⟨rfl,h2⟩:=hI
 refine Run.seq (sr (gm rfl (gm rfl (op (OpS.len h2 Tryz.underlying22 rfl rfl rfl (V.at .z) ?_)))))
 refine gb rfl (nil ?_)
 refine Run.ite rfl hF (λ e3 hF=>?_) (λ e3 hF=>?_)
 ·refine Run.skip (Run.seq (Run.block (sr (gm rfl (gm rfl (gm rfl ?_))))))
  obtain ⟨x2,e4,hF⟩:=bindP_use hF
  refine op (OpS.iptr h2 Tryz.underlying22 ty3 rfl rfl rfl rfl (V.at .z) e4 (λ u2 h3=>?_))
  refine op (OpS.loadi h3 ty3 rfl rfl rfl .z ?_)
  refine gm rfl ?_
  obtain ⟨y1,e5,hF⟩:=bindP_use hF
  have h4:=h3.front (.cons .z (.cons .z .nil))
  refine op (OpS.callOF (fl:=[]) (cl:=[v1_0]) h4 Tryz.func133 rfl rfl rfl rfl rfl (vs:=[.int .i64 x2,.int .i64 s1.1]) rfl (bus_Bus_Step_2_2_ok e5) rfl (.ptr (.s (.s .z)) (.ptr (.s (.s (.s .z))) .nil)) ?_)
  rintro _ w2 _ _ _ ⟨rfl,rfl,rfl,rfl⟩ h5
  have h6:=h5
  simp only [ca,na] at h6
  refine gb rfl (nil ?_)
  refine Run.ite rfl hF (λ e6 hF=>?_) (λ e6 hF=>?_)
  ·refine Run.reg (gm rfl (gm rfl ?_))
   obtain ⟨x3,e7,hF⟩:=bindP_use hF
   refine op (OpS.iptr h6 Tryz.underlying22 ty3 rfl rfl rfl rfl (V.at (.s .z)) e7 (λ u3 h7=>?_))
   refine op (OpS.loadi h7 ty3 rfl rfl rfl .z ?_)
   refine ga rfl (nil (Run.endBlock (Run.reg (gm rfl (gb rfl (ga rfl ?_))))))
   obtain ⟨x4,e8,hF⟩:=letP_use hF
   refine RunL.name e8 ?_
   refine nil (Run.slim [(0,v0),(1,.func (.func 133) #[] #[v1_0]),(5,.int .i64 x3),(6,.int .i64 x4)] ⟨rfl,rfl,rfl,rfl,trivial⟩ ?_)
   exact hk1 (x3,x4) _ _ ⟨rfl,(h7.facts (.atm (.s (.s .z)) (.atm (.s (.s (.s .z))) (.atm (.s (.s (.s (.s .z)))) .nil)))).picks (.cons .z (.cons .z .nil))⟩ hF
  refine Run.skip (Run.endBlock (Run.reg (gm rfl (gb rfl (ga rfl ?_)))))
  obtain ⟨x5,e9,hF⟩:=letP_use hF
  refine RunL.name e9 ?_
  refine nil (Run.slim [(0,v0),(1,.func (.func 133) #[] #[v1_0]),(5,.int .i64 s1.1),(6,.int .i64 x5)] ⟨rfl,rfl,rfl,rfl,trivial⟩ ?_)
  exact hk1 (s1.1,x5) _ _ ⟨rfl,(h6.facts (.atm (.s .z) (.atm (.s (.s .z)) (.atm (.s (.s (.s .z))) .nil)))).picks (.cons .z (.cons .z .nil))⟩ hF
 refine Run.exit rfl ?_
 refine sr (gm rfl (ga rfl (nil (Run.retP rfl (.tmp rfl .nil) ?_))))
 cases hF
 exact Post.mk' ⟨rfl,rfl,rfl,rfl⟩ (h2.picks (.cons .z (.cons .z .nil))) .nil
set_option maxHeartbeats 8000000 in set_option maxRecDepth 20000 in
theorem bus_Bus_Step_ok {fuel:Nat} {a0:bus_Bus} {a1:Fault_} {y:Delivery_×Bool×bus_Bus} (hF:bus_Bus_Step fuel a0 a1=some y) {w:World} {v0 v0_0 v1:Value} :
  Spec Tryz.prog 61 [v0,v1].toArray w [(false,.val Fault_.rep v1 a1)] [(false,.box 241 (bus_Bus.repW v0_0) v0 a0),(false,.oval (oslice 256 3 (λ _=>bus_master.orep)) v0_0 a0.masters)] (λ v Γr Ωr Ωo=>∃ u0 w0_0:Value,v=.tuple #[u0,.bool y.2.1]∧Γr=[(true,.val Delivery_.rep u0 y.1)]∧Ωr=[]∧Ωo=[(false,.box 241 (bus_Bus.repW w0_0) v0 y.2.2),(false,(.oval (oslice 256 3 (λ _=>bus_master.orep)) w0_0 y.2.2.masters))]):=by
 refine Spec.of (L:=[(0,v0),(1,v1)]) Tryz.func61 rfl ⟨rfl,rfl,trivial⟩ rfl (λ e h=>?_)
 unfold bus_Bus_Step at hF
 refine sr (op (OpS.box (f':=true) (r:=Rep.raw (α:=Unit) v0) (x:=()) h rfl rfl rfl (V.raw (f:=true) (St.box1 h .z) ()) (λ u1 w1 h1=>?_)))
 have h2:=(h1.pick .z).freezeBox
 refine op (OpS.boxF h2 rfl rfl rfl (V.at (.s .z)) (λ u2 w2 h3=>?_))
 refine op (OpS.alloc h3 ti147 Delivery_.zr rfl rfl (λ u3 w3 h4=>?_))
 refine ga rfl (nil (sr (op (OpS.loadPR h4 tyf120 rfl rfl rfl .z ?_))))
 obtain ⟨y1,e1,hF⟩:=bindP_use hF
 have h5:=h4.front (.cons (.s (.s .z)) (.cons (.s (.s .z)) .nil))
 refine op (OpS.callO h5 Tryz.func130 rfl rfl rfl rfl (vs:=[v0]) rfl (bus_Bus_taking_ok e1) rfl .nil ?_)
 rintro u4 w4 _ _ _ ⟨_,u5,rfl,rfl,rfl,rfl⟩ h6
 have h7:=h6
 simp only [ca,na] at h7
 refine ga rfl ?_
 have h8:=(h7.pick .z).freeze
 refine nil (Run.seq (sr (gm rfl (op (OpS.len h8 Tryz.underlying22 rfl rfl rfl (V.at .z) ?_)))))
 refine gb rfl (nil ?_)
 refine Run.ite rfl hF (λ e2 hF=>?_) (λ e2 hF=>?_)
 ·refine sr (op (OpS.build (f:=true) (x':=Delivery_.z) h8 pl147 ti147 Delivery_.zr rfl rfl rfl .nil (λ u6 h9=>?_)))
  refine op (OpS.storeB (f':=true) h9 (.s (.s .z)) PA.z Put.id ty147 rfl rfl rfl (V.at .z) (.inl rfl) (λ w5 h10=>?_))
  refine ga rfl (nil ?_)
  obtain ⟨u7,hu1,h11⟩:=res_box h10 .z ty147
  refine Run.retP rfl (.cell rfl hu1 (.tmp rfl .nil)) ?_
  cases hF
  exact Post.mk' ⟨u7,u5,rfl,rfl,rfl,rfl⟩ (h11.picks (.cons (.s .z) (.cons (.s .z) .nil))) (.val (V.at .z) .nil)
 refine Run.skip (sr (op (OpS.mkf (fl:=[]) (cl:=[u1]) rfl rfl rfl rfl ?_)))
 refine op (OpS.alloc (r:=Rep.raw (α:=Unit) .nilFunc) h8 ti132 (Zr.raw rfl ()) rfl rfl (λ u8 w6 h12=>?_))
 refine op (OpS.storeC (f':=true) (fr:=(Rep.raw (α:=Unit) (.func (.func 131) #[] #[u1]))) (r':=(Rep.raw (α:=Unit) (.func (.func 131) #[] #[u1]))) (x':=()) (y:=()) h12 .z PA.z (Chg.id (by rfl)) tyf132 rfl rfl rfl (V.raw (f:=true) rfl ()) (.inl rfl) (λ w7 h13=>?_))
 refine nil (Run.seq ?_)
 have h14:=(h13.pick .z).freezeBox
 obtain ⟨y2,e3,hF⟩:=bindP_use hF
 refine Run.drawV (Ωs:=[(true,.box 147 Delivery_.rep u3 Delivery_.z),(false,.box 145 Fault_.rep u2 a1)]) [.k 22 (.func (.func 131) #[] #[u1]),.k 23 u4,.k 24 (.func (.func 133) #[] #[u8]),.kr 25 (.int .i64 y2) [0,1]] [[],[],[],[1,2]] [[(false,.box 241 (bus_Bus.repW u5) v0 y1.2)],[(false,.oval (oslice 256 3 (λ _=>bus_master.orep)) u5 y1.2.masters)]] [0,1,2,3,4,5] Try_mixed rfl rfl rfl h14 (.cons ?_ (.cons ?_ (.cons ?_ (.cons ?_ .nil)))) (λ q1 w hq1 h=>?_)
 ·intro q1 w Γx Ωx h
  refine OpS.loadPR h tyf132 rfl rfl rfl .z ?_
  exact du h
 ·intro q1 w Γx Ωx h
  refine OpS.mv rfl rfl rfl ?_
  exact du h
 ·intro q1 w Γx Ωx h
  refine OpS.mkf (fl:=[]) (cl:=[u8]) rfl rfl rfl rfl ?_
  exact du h
 ·intro q1 w Γx Ωx h
  have h18:=h.front (.cons .z (.cons .z .nil))
  refine OpS.callO h18 Tryz.func132 rfl rfl rfl rfl (vs:=[u4,.func (.func 133) #[] #[u8]]) rfl (slices_MinFunc_int_int_bus_Bus_Step_2_ok e3) rfl (.cons (f:=true) (V.at (.s .z)) (.ptr (.s (.s .z)) (.ptr .z .nil))) ?_
  rintro _ w9 _ _ _ ⟨rfl,rfl,rfl,rfl⟩ h19
  have h20:=h19
  simp only [ca,na] at h20
  exact ⟨undef,rfl,trivial,h20⟩
 have h21:=h
 obtain ⟨y3,e4,hF⟩:=bindP_use hF
 have h22:=h21.front (.cons .z (.cons .z .nil))
 refine op (OpS.callOF (fl:=[]) (cl:=[u1]) h22 Tryz.func131 rfl rfl rfl rfl rfl (vs:=[.int .i64 y2]) rfl (bus_Bus_Step_1_2_ok e4) rfl (.ptr (.s (.s .z)) .nil) ?_)
 rintro u9 w10 _ _ _ ⟨_,rfl,rfl,rfl,rfl⟩ h23
 have h24:=h23
 simp only [ca,na] at h24
 refine ga rfl (nil (sr (gm rfl (op (OpS.loadB h24 (.s (.s (.s .z))) PA.z Get.id ty145 rfl rfl rfl (λ u10 h25=>?_))))))
 obtain ⟨y4,e5,hF⟩:=bindP_use hF
 refine op (OpS.callP h25 Tryz.func135 rfl rfl rfl rfl (vs:=[u9,u10]) rfl (bus_arrive_ok e5) (.cons (f:=false) (V.at (.s .z)) (.cons (f:=false) (V.at .z) .nil)) ?_)
 rintro u11 w11 _ _ _ ⟨_,rfl,rfl,rfl,rfl⟩ h26
 have h27:=h26 rfl rfl
 simp only [ca,na] at h27
 have h28:=(h27.pick .z).freeze
 have h29:=St.nil 3 (Rep.int .i64) h28
 have h30:=St.nil 3 (Rep.int .i64) h29
 refine op (OpS.buildC (f:=true) (r:=RqC1) (x:=Delivery_.z) (r':=RqC1) (x':=(⟨[],y4,false,[]⟩:Delivery_)) h30 pl147 ti147 (Zr.iso (y:=Delivery_.z) _ (Zr.of (Zr.prod (Zr.raw rfl ([]:List Int)) (Zr.prod (Zr.slice (Rep.int .u8)) (Zr.prod (Zr.bool false) (Zr.prod (Zr.raw rfl ([]:List Int)) Zr.unit)))) (by rfl))) rfl rfl rfl (.cons (Rep.slice (Rep.int .u8)) RqC1 RqC1 Delivery_.z (⟨[],y4,false,[]⟩:Delivery_) (Chg.iso _ (Chg.there (Chg.here (Chg.id (by rfl))))) rfl rfl (V.at .z) .nil) (λ u12 h31=>?_))
 have h32:=St.nil 3 (Rep.int .i64) h31
 have h33:=St.nil 3 (Rep.int .i64) h32
 refine op (OpS.alloc (r:=RqC1) h33 ti147 (Zr.iso (y:=Delivery_.z) _ (Zr.of (Zr.prod (Zr.raw rfl ([]:List Int)) (Zr.prod (Zr.slice (Rep.int .u8)) (Zr.prod (Zr.bool false) (Zr.prod (Zr.raw rfl ([]:List Int)) Zr.unit)))) (by rfl))) rfl rfl (λ u13 w12 h34=>?_))
 refine op (OpS.storeC (f':=true) (fr:=RqC1) (r':=RqC1) (x':=(⟨[],y4,false,[]⟩:Delivery_)) h34 .z PA.z (Chg.id (by rfl)) (Ty.like ty147 (by rfl) (by rfl)) rfl rfl rfl (V.at .z) (.inl rfl) (λ w13 h35=>?_))
 refine nil (sr (op (OpS.fbox (o3:=1) h35 .z PA.z fa147_1 rfl rfl rfl rfl ?_)))
 refine op (OpS.loadB (fr:=(Rep.slice (Rep.int .u8))) h35 .z PA.a (GetS.ok (GetS.iso _ (GetS.there (GetS.here GetS.id)))) (Ty.like ty24 (by rfl) (by rfl)) rfl rfl rfl (λ u14 h36=>?_))
 obtain ⟨y5,e6,hF⟩:=bindP_use hF
 refine op (OpS.callP h36 Tryz.func62 rfl rfl rfl rfl (vs:=[u14]) rfl (frame_Decode_ok e6) (.cons (f:=true) (V.at .z) .nil) ?_)
 rintro _ w14 _ _ _ ⟨u15,rfl,rfl,rfl,rfl⟩ h37
 have h38:=h37 rfl rfl
 simp only [ca,na] at h38
 refine gm rfl (op (OpS.ext rfl rfl rfl rfl ?_))
 refine op (OpS.ext rfl rfl rfl rfl ?_)
 refine op (OpS.alloc h38 ti142 Frame_.zr rfl rfl (λ u16 w15 h39=>?_))
 refine op (OpS.storeB (f':=true) h39 .z PA.z Put.id ty142 rfl rfl rfl (V.at .z) (.inl rfl) (λ w16 h40=>?_))
 refine ga rfl (nil (sr (gm rfl (gb rfl (op (OpS.fbox (o3:=2) h40 (.s .z) PA.z fa147_2 rfl rfl rfl rfl ?_))))))
 refine op (OpS.storeC (f':=true) (fr:=Rep.bool) (r':=RqC1) (x':=(⟨[],y4,y5.2==0,[]⟩:Delivery_)) h40 (.s .z) PA.a (Chg.iso _ (Chg.there (Chg.there (Chg.here (Chg.id (by rfl)))))) ty4 rfl rfl rfl V.bool (.inl rfl) (λ w17 h41=>?_))
 refine nil (Run.seq (sr (gm rfl (op (OpS.len h41 Tryz.underlying22 rfl rfl rfl (V.at (.s (.s (.s (.s (.s (.s (.s .z)))))))) ?_)))))
 refine gm rfl (nil (Run.slim [(42,.int .i64 0),(41,.int .i64 (y1.1.length:Int)),(40,u4),(9,u13),(8,u9),(7,u8),(4,u3),(2,u1)] ⟨rfl,rfl,rfl,rfl,rfl,rfl,rfl,rfl,trivial⟩ ?_))
 refine Run.block (Run.slim [(2,u1),(4,u3),(7,u8),(8,u9),(9,u13),(40,u4),(41,.int .i64 (y1.1.length:Int)),(42,.int .i64 0)] ⟨rfl,rfl,rfl,rfl,rfl,rfl,rfl,rfl,trivial⟩ ?_)
 refine Run.loopP (σ:=(Int×bus_Bus×(List Int)×(List Int))) (λ s_ L_ w_=>∃ u0_ u1_:Value,L_=[(2,u1),(4,u3),(7,u8),(8,u9),(9,u13),(40,u4),(41,.int .i64 (y1.1.length:Int)),(42,.int .i64 s_.1)]∧St e w_ [(true,.ptr (Rep.raw (α:=Unit) (v0)) u1 ()),(true,.ptr (Rep.raw (α:=Unit) (.func (.func 131) #[] #[u1])) u8 ()),(false,.val (Rep.slice (Rep.int .u8)) u9 y3),(true,.val (Rep.slice (Rep.int .i64)) u4 y1.1)] [(true,.box 147 Delivery_.rep u3 Delivery_.z),(true,.box 147 (Rep.iso (λ s:Delivery_=>(s.Masters,s.Bytes,s.OK,s.Failed,())) (Rep.prod (Rep.raw (α:=List Int) u0_) (Rep.prod (Rep.slice (Rep.int .u8)) (Rep.prod Rep.bool (Rep.prod (Rep.raw (α:=List Int) u1_) Rep.unit))))) u13 (⟨[],y4,y5.2==0,[]⟩:Delivery_)),(false,.box 241 (bus_Bus.repW u5) v0 s_.2.1),(true,.slice 3 (Rep.int .i64) u0_ s_.2.2.1),(true,.slice 3 (Rep.int .i64) u1_ s_.2.2.2),(false,.oval (oslice 256 3 (λ _=>bus_master.orep)) u5 s_.2.1.masters)]) hF ⟨(.slice none 0 0),(.slice none 0 0),rfl,(h41.facts (.atm (.s (.s (.s (.s (.s (.s (.s (.s .z)))))))) (.atm (.s (.s (.s (.s (.s (.s .z)))))) (.atm (.s (.s (.s (.s (.s .z))))) (.atm (.s (.s (.s (.s (.s (.s (.s .z))))))) .nil))))).picks (.cons (.s (.s (.s (.s (.s (.s (.s (.s .z)))))))) (.cons .z (.cons (.s (.s (.s (.s (.s .z))))) (.cons (.s (.s (.s (.s .z)))) (.cons (.s (.s (.s .z))) (.cons (.s (.s (.s .z))) .nil))))))⟩ (λ k1 hk1 s1 _ w18 hI hF=>?_)
 obtain ⟨u17,u18,rfl,h42⟩:=hI
 refine sr (gb rfl (nil (Run.seq ?_)))
 refine Run.ite rfl hF (λ e7 hF=>?_) (λ e7 hF=>?_)
 ·refine Run.skip (Run.seq (Run.block (sr ?_)))
  obtain ⟨x1,e8,hF⟩:=bindP_use hF
  refine op (OpS.iptr h42 Tryz.underlying22 ty3 rfl rfl rfl rfl (V.at (.s (.s (.s .z)))) e8 (λ u19 h43=>?_))
  refine op (OpS.loadi h43 ty3 rfl rfl rfl .z ?_)
  refine ga rfl (nil (Run.seq (sr (op (OpS.loadPR h43 tyf132 rfl rfl rfl (.s (.s .z)) ?_)))))
  refine gm rfl ?_
  obtain ⟨y6,e9,hF⟩:=bindP_use hF
  have h44:=h43.front (.cons (.s (.s .z)) (.cons (.s (.s (.s (.s .z)))) .nil))
  refine op (OpS.callOF (fl:=[]) (cl:=[u1]) h44 Tryz.func131 rfl rfl rfl rfl rfl (vs:=[.int .i64 x1]) rfl (bus_Bus_Step_1_2_ok e9) rfl (.ptr (.s .z) .nil) ?_)
  rintro u20 w19 _ _ _ ⟨_,rfl,rfl,rfl,rfl⟩ h45
  have h46:=h45
  simp only [ca,na] at h46
  refine gm rfl ?_
  obtain ⟨y7,e10,hF⟩:=bindP_use hF
  refine op (OpS.callP h46 Tryz.func134 rfl rfl rfl rfl (vs:=[u20,u9]) rfl (frame_Compare_ok e10) (.cons (f:=false) (V.at .z) (.cons (f:=false) (V.at (.s (.s (.s (.s .z))))) .nil)) ?_)
  rintro _ w20 _ _ _ ⟨rfl,rfl,rfl,rfl⟩ h47
  have h48:=h47 rfl rfl
  simp only [ca,na] at h48
  refine gb rfl (nil ?_)
  refine Run.ite rfl hF (λ e11 hF=>?_) (λ e11 hF=>?_)
  ·refine Run.exit rfl ?_
   refine Run.reg (gb rfl (gm rfl (nil (Run.slim [(2,u1),(4,u3),(7,u8),(8,u9),(9,u13),(40,u4),(41,.int .i64 (y1.1.length:Int)),(42,.int .i64 (IntKind.i64.wrap (s1.1+1)))] ⟨rfl,rfl,rfl,rfl,rfl,rfl,rfl,rfl,trivial⟩ ?_))))
   exact hk1 ((IntKind.i64.wrap (s1.1+1)),s1.2.1,s1.2.2.1,s1.2.2.2) _ _ ⟨u17,u18,rfl,(h48.facts (.atm (.s (.s .z)) (.atm (.s (.s (.s .z))) (.atm (.s (.s (.s (.s .z)))) (.atm (.s (.s (.s (.s (.s .z))))) .nil))))).picks (.cons (.s (.s .z)) (.cons (.s (.s .z)) (.cons .z (.cons (.s .z) (.cons (.s .z) (.cons .z .nil))))))⟩ hF
  refine Run.skip (sr (op (OpS.fbox (o3:=0) h48 (.s (.s (.s .z))) PA.z fa147_0 rfl rfl rfl rfl ?_)))
  refine op (OpS.loadR h48 (.s (.s (.s .z))) PA.a (GetS.ok (GetS.iso _ (GetS.here GetS.id))) ty22 rfl rfl rfl rfl rfl ?_)
  refine gm rfl (op (OpS.lit (r:=(Rep.int .i64)) (f:=true) h48 Tryz.underlying22 ti3 rfl rfl rfl rfl rfl (.cons rfl V.int .nil) rfl rfl (λ u21 w21 h49=>?_)))
  obtain ⟨x2,e12,hF⟩:=bindP_use hF
  refine op (OpS.app (f':=true) h49 (.s (.s (.s (.s .z)))) Tryz.underlying22 ti3 rfl rfl rfl rfl rfl rfl rfl (V.at .z) (.inr Pure.int) e12 (λ u22 w22 h50=>?_))
  refine op (OpS.fbox (o3:=0) h50 (.s (.s (.s (.s .z)))) PA.z fa147_0 rfl rfl rfl rfl ?_)
  refine op (OpS.storeC (f':=true) (fr:=(Rep.raw u22)) (r':=(Rep.iso (λ s:Delivery_=>(s.Masters,s.Bytes,s.OK,s.Failed,())) (Rep.prod (Rep.raw (α:=List Int) u22) (Rep.prod (Rep.slice (Rep.int .u8)) (Rep.prod Rep.bool (Rep.prod (Rep.raw (α:=List Int) u18) Rep.unit)))))) (x':=(⟨[],y4,y5.2==0,[]⟩:Delivery_)) h50 (.s (.s (.s (.s .z)))) PA.a (Chg.iso _ (Chg.here (Chg.id (by rfl)))) (Ty.like ty22 (by rfl) (by rfl)) rfl rfl rfl (V.raw (f:=true) (St.own1 h50 .z) ([])) (.inl rfl) (λ w23 h51=>?_))
  refine nil (sr (op (OpS.loadPR h51 tyf120 rfl rfl rfl (.s (.s (.s .z))) ?_)))
  refine op (OpS.nchk h51 (.s (.s .z)) rfl rfl rfl ?_)
  refine op (OpS.fbox (o3:=0) h51 (.s (.s .z)) PA.z fa241_0 rfl rfl rfl rfl ?_)
  refine op (OpS.loadR h51 (.s (.s .z)) PA.a (GetS.ok (GetS.iso _ (GetS.here GetS.id))) ty239 rfl rfl rfl rfl rfl ?_)
  refine gm rfl ?_
  obtain ⟨x3,e13,hF⟩:=bindP_use hF
  refine op (OpS.iownD h51 (.s (.s (.s .z))) Tryz.underlying239 sz256 rfl rfl rfl rfl e13 ?_)
  refine ga rfl (nil (sr (gm rfl (op (OpS.nchkO h51 (.s (.s (.s .z))) (idx_ne e13) PA.a rfl rfl rfl ?_)))))
  refine op (OpS.fownD h51 (.s (.s (.s .z))) (idx_ne e13) PA.a fa256_2 rfl rfl rfl ?_)
  obtain ⟨d1,e14,hF⟩:=letP_use hF
  refine op (OpS.storeOD (F2:=λ _=>bus_master.orep) (f':=true) (hn:=λ _=>rfl) (hn2:=λ _=>rfl) h51 (.s (.s (.s .z))) (idx_ne e13) PA.a (Len.comp (Len.arrSame e13) bus_master.l2) ty4 rfl rfl rfl V.bool (.inr rfl) (λ w24 h52=>?_))
  have h53:=St.termD (l':=d1) h52 e14
  refine nil (sr (gm rfl ?_))
  obtain ⟨x4,e15,hF⟩:=bindP_use hF
  refine op (OpS.nchkO h53 .z (idx_ne e15) PA.a rfl rfl rfl ?_)
  refine op (OpS.fownD h53 .z (idx_ne e15) PA.a fa256_1 rfl rfl rfl ?_)
  refine op (OpS.loadSi h53 .z bus_master.wk rfl (idx_ne e15) PA.a (Get.comp (Get.arr e15) (GetS.ok (GetS.iso _ (GetS.there (GetS.here GetS.id))))) ty3 rfl rfl rfl ?_)
  refine gb rfl (op (OpS.nchkO h53 .z (idx_ne e15) PA.a rfl rfl rfl ?_))
  refine op (OpS.fownD h53 .z (idx_ne e15) PA.a fa256_1 rfl rfl rfl ?_)
  obtain ⟨d2,e16,hF⟩:=letP_use hF
  refine op (OpS.storeOD (F2:=λ _=>bus_master.orep) (f':=true) (hn:=λ _=>rfl) (hn2:=λ _=>rfl) h53 .z (idx_ne e15) PA.a (Len.comp (Len.arrSame e15) bus_master.l1) ty3 rfl rfl rfl V.int (.inr rfl) (λ w25 h54=>?_))
  have h55:=St.termD (l':=d2) h54 e16
  refine nil (Run.slim [(14,(padd (sp u5) ((x1:Int).toNat*3))),(13,.int .i64 x1),(2,u1),(4,u3),(7,u8),(8,u9),(9,u13),(40,u4),(41,.int .i64 (y1.1.length:Int)),(42,.int .i64 s1.1)] ⟨rfl,rfl,rfl,rfl,rfl,rfl,rfl,rfl,rfl,rfl,trivial⟩ ?_)
  refine Run.seq (sr (op (OpS.fbox (o3:=2) h55 (.s .z) PA.z fa147_2 rfl rfl rfl rfl ?_)))
  refine op (OpS.loadBb h55 (.s .z) PA.a (GetS.ok (GetS.iso _ (GetS.there (GetS.there (GetS.here GetS.id))))) ty4 rfl rfl rfl ?_)
  refine op (OpS.not rfl rfl rfl ?_)
  refine gm rfl ?_
  refine RunL.join (σ:=Bool) (λ s_ L_ w_=>L_=[(2,u1),(4,u3),(7,u8),(8,u9),(9,u13),(13,.int .i64 x1),(14,(padd (sp u5) ((x1:Int).toNat*3))),(40,u4),(41,.int .i64 (y1.1.length:Int)),(42,.int .i64 s1.1),(83,.bool s_)]∧St e w_ [(true,.ptr (Rep.raw (α:=Unit) (v0)) u1 ()),(true,.ptr (Rep.raw (α:=Unit) (.func (.func 131) #[] #[u1])) u8 ()),(false,.val (Rep.slice (Rep.int .u8)) u9 y3),(true,.val (Rep.slice (Rep.int .i64)) u4 y1.1)] [(true,.box 147 Delivery_.rep u3 Delivery_.z),(true,.box 147 (Rep.iso (λ s:Delivery_=>(s.Masters,s.Bytes,s.OK,s.Failed,())) (Rep.prod (Rep.raw (α:=List Int) u22) (Rep.prod (Rep.slice (Rep.int .u8)) (Rep.prod Rep.bool (Rep.prod (Rep.raw (α:=List Int) u18) Rep.unit))))) u13 (⟨[],y4,y5.2==0,[]⟩:Delivery_)),(false,.oval (oslice 256 3 (λ _=>bus_master.orep)) u5 d2),(false,.box 241 (bus_Bus.repW u5) v0 ({ s1.2.1 with masters:=d2 })),(true,.slice 3 (Rep.int .i64) u18 s1.2.2.2),(true,.slice 3 (Rep.int .i64) u22 x2)]) hF (λ s2 _ w26 hI hF=>?_) (λ j1 hj1 hF=>?_)
  ·obtain ⟨rfl,h56⟩:=hI
   refine Run.ite rfl hF (λ e17 hF=>?_) (λ e17 hF=>?_)
   ·refine Run.exit rfl ?_
    refine Run.reg (gb rfl (gm rfl (nil (Run.slim [(2,u1),(4,u3),(7,u8),(8,u9),(9,u13),(40,u4),(41,.int .i64 (y1.1.length:Int)),(42,.int .i64 (IntKind.i64.wrap (s1.1+1)))] ⟨rfl,rfl,rfl,rfl,rfl,rfl,rfl,rfl,trivial⟩ ?_))))
    exact hk1 ((IntKind.i64.wrap (s1.1+1)),{ s1.2.1 with masters:=d2 },x2,s1.2.2.2) _ _ ⟨u22,u18,rfl,(h56.facts (.atm .z (.atm (.s .z) (.atm (.s (.s .z)) (.atm (.s (.s (.s .z))) .nil))))).picks (.cons .z (.cons .z (.cons (.s .z) (.cons (.s (.s .z)) (.cons (.s .z) (.cons .z .nil))))))⟩ hF
   refine Run.skip (Run.seq (sr (op (OpS.fbox (o3:=2) h56 (.s .z) PA.z fa147_2 rfl rfl rfl rfl ?_))))
   refine op (OpS.loadBb h56 (.s .z) PA.a (GetS.ok (GetS.iso _ (GetS.there (GetS.there (GetS.here GetS.id))))) ty4 rfl rfl rfl ?_)
   refine op (OpS.not rfl rfl rfl ?_)
   refine nil ?_
   refine Run.join (σ:=((List Int))) (λ s_ L_ w_=>∃ u0_:Value,L_=[(2,u1),(4,u3),(7,u8),(8,u9),(9,u13),(14,(padd (sp u5) ((x1:Int).toNat*3))),(40,u4),(41,.int .i64 (y1.1.length:Int)),(42,.int .i64 s1.1)]∧St e w_ [(true,.ptr (Rep.raw (α:=Unit) (v0)) u1 ()),(true,.ptr (Rep.raw (α:=Unit) (.func (.func 131) #[] #[u1])) u8 ()),(false,.val (Rep.slice (Rep.int .u8)) u9 y3),(true,.val (Rep.slice (Rep.int .i64)) u4 y1.1)] [(true,.box 147 Delivery_.rep u3 Delivery_.z),(true,.box 147 (Rep.iso (λ s:Delivery_=>(s.Masters,s.Bytes,s.OK,s.Failed,())) (Rep.prod (Rep.raw (α:=List Int) u22) (Rep.prod (Rep.slice (Rep.int .u8)) (Rep.prod Rep.bool (Rep.prod (Rep.raw (α:=List Int) u0_) Rep.unit))))) u13 (⟨[],y4,y5.2==0,[]⟩:Delivery_)),(false,.oval (oslice 256 3 (λ _=>bus_master.orep)) u5 d2),(false,.box 241 (bus_Bus.repW u5) v0 ({ s1.2.1 with masters:=d2 })),(true,.slice 3 (Rep.int .i64) u22 x2),(true,.slice 3 (Rep.int .i64) u0_ s_)]) hF (λ s3 _ w27 hI hF=>?_) (λ j2 hj2 hF=>?_)
   ·obtain ⟨u23,rfl,h57⟩:=hI
    refine Run.reg (gm rfl (gm rfl (gm rfl ?_)))
    obtain ⟨x5,e18,hF⟩:=bindP_use hF
    refine op (OpS.nchkO h57 (.s (.s .z)) (idx_ne e18) PA.a rfl rfl rfl ?_)
    refine op (OpS.fownD h57 (.s (.s .z)) (idx_ne e18) PA.a fa256_0 rfl rfl rfl ?_)
    refine op (OpS.openO (F':=λ v_=>at' (λ _=>bus_master.orep) (x1).toNat (bus_master.orepW (raw v_))) (hn:=λ _=>rfl) (hn':=λ _=>at_hn rfl rfl) h57 (.s (.s .z)) (idx_ne e18) PA.a (λ v_=>Len.comp (Len.arrOpen e18) (bus_master.lenO v_)) rfl ty170 rfl rfl rfl rfl (λ u24 h58=>?_))
    obtain ⟨e19,hF⟩:=chk_use hF
    refine op (OpS.subD h58 (.s .z) rfl rfl Tryz.underlying170 ty24 rfl rfl rfl rfl (of_decide_eq_true e19) (λ u25 h59=>?_))
    refine op (OpS.nchkO h59 (.s .z) (idx_ne e18) PA.a rfl rfl rfl ?_)
    refine op (OpS.fownD h59 (.s .z) (idx_ne e18) PA.a fa256_0 rfl rfl rfl ?_)
    obtain ⟨d3,e20,hF⟩:=letP_use hF
    refine op (OpS.storePO (F:=(at' (λ _=>bus_master.orep) (x1).toNat (bus_master.orepW (raw u24)))) (F2:=λ _=>bus_master.orep) (hn:=at_hn rfl rfl) (hn2:=λ _=>rfl) h59 (.s .z) .z (idx_ne e18) PA.a (Len.comp (Len.arrShut e18) (bus_master.lenC u24)) ty170 rfl rfl rfl rfl (.inr rfl) (λ w28 h60=>?_))
    have h61:=St.termD (l':=d3) h60 e20
    obtain ⟨x6,e21,hF⟩:=bindP_use hF
    refine op (OpS.nchkO h61 .z (idx_ne e21) PA.a rfl rfl rfl ?_)
    refine op (OpS.fownD h61 .z (idx_ne e21) PA.a fa256_1 rfl rfl rfl ?_)
    obtain ⟨d4,e22,hF⟩:=letP_use hF
    refine op (OpS.storeOD (F2:=λ _=>bus_master.orep) (f':=true) (hn:=λ _=>rfl) (hn2:=λ _=>rfl) h61 .z (idx_ne e21) PA.a (Len.comp (Len.arrSame e21) bus_master.l1) ty3 rfl rfl rfl V.int (.inr rfl) (λ w29 h62=>?_))
    have h63:=St.termD (l':=d4) h62 e22
    refine nil (Run.endBlock (Run.reg (gb rfl (gm rfl (nil ?_)))))
    have h64:=St.boxJ (r':=(bus_Bus.repW u5)) (x':={ { s1.2.1 with masters:=d2 } with masters:=d4 }) (h63.pick (.s (.s (.s .z)))) (λ _ _ hs_=>(Jn.iso _ (Jn.prod Jn.same Jn.refl)))
    refine Run.slim [(2,u1),(4,u3),(7,u8),(8,u9),(9,u13),(40,u4),(41,.int .i64 (y1.1.length:Int)),(42,.int .i64 (IntKind.i64.wrap (s1.1+1)))] ⟨rfl,rfl,rfl,rfl,rfl,rfl,rfl,rfl,trivial⟩ ?_
    exact hk1 ((IntKind.i64.wrap (s1.1+1)),{ { s1.2.1 with masters:=d2 } with masters:=d4 },x2,s3) _ _ ⟨u22,u23,rfl,(h64.facts (.atm .z (.atm (.s .z) (.atm (.s (.s .z)) (.atm (.s (.s (.s .z))) .nil))))).picks (.cons (.s (.s .z)) (.cons (.s (.s .z)) (.cons .z (.cons (.s .z) (.cons (.s .z) (.cons .z .nil))))))⟩ hF
   refine Run.ite rfl hF (λ e23 hF=>?_) (λ e23 hF=>?_)
   ·refine Run.reg (op (OpS.fbox (o3:=3) h56 (.s .z) PA.z fa147_3 rfl rfl rfl rfl ?_))
    refine op (OpS.loadR h56 (.s .z) PA.a (GetS.ok (GetS.iso _ (GetS.there (GetS.there (GetS.there (GetS.here GetS.id)))))) ty22 rfl rfl rfl rfl rfl ?_)
    refine gm rfl (op (OpS.lit (r:=(Rep.int .i64)) (f:=true) h56 Tryz.underlying22 ti3 rfl rfl rfl rfl rfl (.cons rfl V.int .nil) rfl rfl (λ u26 w30 h65=>?_)))
    obtain ⟨x7,e24,hF⟩:=bindP_use hF
    refine op (OpS.app (f':=true) h65 (.s (.s (.s (.s .z)))) Tryz.underlying22 ti3 rfl rfl rfl rfl rfl rfl rfl (V.at .z) (.inr Pure.int) e24 (λ u27 w31 h66=>?_))
    refine op (OpS.fbox (o3:=3) h66 (.s (.s .z)) PA.z fa147_3 rfl rfl rfl rfl ?_)
    refine op (OpS.storeC (f':=true) (fr:=(Rep.raw u27)) (r':=(Rep.iso (λ s:Delivery_=>(s.Masters,s.Bytes,s.OK,s.Failed,())) (Rep.prod (Rep.raw (α:=List Int) u22) (Rep.prod (Rep.slice (Rep.int .u8)) (Rep.prod Rep.bool (Rep.prod (Rep.raw (α:=List Int) u27) Rep.unit)))))) (x':=(⟨[],y4,y5.2==0,[]⟩:Delivery_)) h66 (.s (.s .z)) PA.a (Chg.iso _ (Chg.there (Chg.there (Chg.there (Chg.here (Chg.id (by rfl))))))) (Ty.like ty22 (by rfl) (by rfl)) rfl rfl rfl (V.raw (f:=true) (St.own1 h66 .z) ([])) (.inl rfl) (λ w32 h67=>?_))
    refine nil (Run.slim [(2,u1),(4,u3),(7,u8),(8,u9),(9,u13),(14,(padd (sp u5) ((x1:Int).toNat*3))),(40,u4),(41,.int .i64 (y1.1.length:Int)),(42,.int .i64 s1.1)] ⟨rfl,rfl,rfl,rfl,rfl,rfl,rfl,rfl,rfl,trivial⟩ ?_)
    exact hj2 (x7) _ _ ⟨u27,rfl,(h67.facts (.atm (.s .z) (.atm (.s (.s .z)) (.atm (.s (.s (.s .z))) (.atm (.s (.s (.s (.s .z)))) .nil))))).picks (.cons (.s (.s .z)) (.cons .z (.cons (.s .z) (.cons (.s .z) (.cons (.s .z) (.cons .z .nil))))))⟩ hF
   refine Run.skip (Run.slim [(2,u1),(4,u3),(7,u8),(8,u9),(9,u13),(14,(padd (sp u5) ((x1:Int).toNat*3))),(40,u4),(41,.int .i64 (y1.1.length:Int)),(42,.int .i64 s1.1)] ⟨rfl,rfl,rfl,rfl,rfl,rfl,rfl,rfl,rfl,trivial⟩ ?_)
   exact hj2 (s1.2.2.2) _ _ ⟨u18,rfl,(h56.facts (.atm .z (.atm (.s .z) (.atm (.s (.s .z)) (.atm (.s (.s (.s .z))) .nil))))).picks (.cons .z (.cons .z (.cons .z (.cons .z (.cons (.s .z) (.cons .z .nil))))))⟩ hF
  refine RunL.caseb hF (λ e25 hF=>?_) (λ e25 hF=>?_)
  ·refine gm rfl ?_
   obtain ⟨x8,e26,hF⟩:=bindP_use hF
   refine op (OpS.nchkO h55 .z (idx_ne e26) PA.a rfl rfl rfl ?_)
   refine op (OpS.fownD h55 .z (idx_ne e26) PA.a fa256_1 rfl rfl rfl ?_)
   refine op (OpS.loadSi h55 .z bus_master.wk rfl (idx_ne e26) PA.a (Get.comp (Get.arr e26) (GetS.ok (GetS.iso _ (GetS.there (GetS.here GetS.id))))) ty3 rfl rfl rfl ?_)
   refine gb rfl (gk rfl (nil (Run.slim [(2,u1),(4,u3),(7,u8),(8,u9),(9,u13),(13,.int .i64 x1),(14,(padd (sp u5) ((x1:Int).toNat*3))),(40,u4),(41,.int .i64 (y1.1.length:Int)),(42,.int .i64 s1.1),(83,.bool (decide (x8.tries<4)))] ⟨rfl,rfl,rfl,rfl,rfl,rfl,rfl,rfl,rfl,rfl,rfl,trivial⟩ ?_)))
   exact hj1 (decide (x8.tries<4)) _ _ ⟨rfl,(h55.facts (.atm (.s (.s (.s .z))) (.atm (.s (.s (.s (.s .z)))) (.atm (.s (.s (.s (.s (.s .z))))) (.atm (.s (.s (.s (.s (.s (.s .z)))))) .nil))))).picks (.cons (.s (.s (.s (.s .z)))) (.cons (.s .z) (.cons .z (.cons (.s .z) (.cons (.s .z) (.cons .z .nil))))))⟩ hF
  refine gp rfl (gp rfl (gp rfl (gp rfl (gp rfl (gk rfl (nil (Run.slim [(2,u1),(4,u3),(7,u8),(8,u9),(9,u13),(13,.int .i64 x1),(14,(padd (sp u5) ((x1:Int).toNat*3))),(40,u4),(41,.int .i64 (y1.1.length:Int)),(42,.int .i64 s1.1),(83,.bool false)] ⟨rfl,rfl,rfl,rfl,rfl,rfl,rfl,rfl,rfl,rfl,rfl,trivial⟩ ?_)))))))
  exact hj1 (false) _ _ ⟨rfl,(h55.facts (.atm (.s (.s (.s .z))) (.atm (.s (.s (.s (.s .z)))) (.atm (.s (.s (.s (.s (.s .z))))) (.atm (.s (.s (.s (.s (.s (.s .z)))))) .nil))))).picks (.cons (.s (.s (.s (.s .z)))) (.cons (.s .z) (.cons .z (.cons (.s .z) (.cons (.s .z) (.cons .z .nil))))))⟩ hF
 refine Run.exit rfl ?_
 refine sr (op (OpS.loadB (fr:=(Rep.iso (λ s:Delivery_=>(s.Masters,s.Bytes,s.OK,s.Failed,())) (Rep.prod (Rep.raw (α:=List Int) u17) (Rep.prod (Rep.slice (Rep.int .u8)) (Rep.prod Rep.bool (Rep.prod (Rep.raw (α:=List Int) u18) Rep.unit)))))) h42 (.s .z) PA.z (GetS.ok GetS.id) (Ty.like ty147 (by rfl) (by rfl)) rfl rfl rfl (λ u28 h68=>?_)))
 refine op (OpS.storeC (f':=true) (fr:=(Rep.iso (λ s:Delivery_=>(s.Masters,s.Bytes,s.OK,s.Failed,())) (Rep.prod (Rep.raw (α:=List Int) u17) (Rep.prod (Rep.slice (Rep.int .u8)) (Rep.prod Rep.bool (Rep.prod (Rep.raw (α:=List Int) u18) Rep.unit)))))) (r':=(Rep.iso (λ s:Delivery_=>(s.Masters,s.Bytes,s.OK,s.Failed,())) (Rep.prod (Rep.raw (α:=List Int) u17) (Rep.prod (Rep.slice (Rep.int .u8)) (Rep.prod Rep.bool (Rep.prod (Rep.raw (α:=List Int) u18) Rep.unit)))))) (x':=(⟨[],y4,y5.2==0,[]⟩:Delivery_)) h68 .z PA.z (Chg.id (by rfl)) (Ty.like ty147 (by rfl) (by rfl)) rfl rfl rfl (V.at .z) (.inl rfl) (λ w33 h69=>?_))
 refine ga rfl (nil ?_)
 have h71:=(h69.pick (.s (.s (.s .z)))).freeze
 have h72:=h71.pick .z
 have h73:=St.boxJ (r':=(Rep.iso (λ s:Delivery_=>(s.Masters,s.Bytes,s.OK,s.Failed,())) (Rep.prod (Rep.slice (Rep.int .i64)) (Rep.prod (Rep.slice (Rep.int .u8)) (Rep.prod Rep.bool (Rep.prod (Rep.raw (α:=List Int) u18) Rep.unit)))))) (x':=(⟨s1.2.2.1,y4,y5.2==0,[]⟩:Delivery_)) h72 (λ _ _ hs_=>(Jn.iso _ (Jn.prod (Jn.raw ((V.at .z) _ _ hs_) rfl) (Jn.prod Jn.refl (Jn.prod Jn.refl (Jn.prod Jn.same Jn.refl))))))
 have h74:=h73.pick (.s .z)
 have h75:=St.boxJ (r':=(Rep.iso (λ s:Delivery_=>(s.Masters,s.Bytes,s.OK,s.Failed,())) (Rep.prod (Rep.slice (Rep.int .i64)) (Rep.prod (Rep.slice (Rep.int .u8)) (Rep.prod Rep.bool (Rep.prod (Rep.raw (α:=List Int) u18) Rep.unit)))))) (x':=(⟨s1.2.2.1,y4,y5.2==0,[]⟩:Delivery_)) h74 (λ _ _ hs_=>(Jn.iso _ (Jn.prod (Jn.raw ((V.at .z) _ _ hs_) rfl) (Jn.prod Jn.refl (Jn.prod Jn.refl (Jn.prod Jn.same Jn.refl))))))
 have h76:=(h75.pick (.s (.s (.s .z)))).freeze
 have h77:=h76.pick .z
 have h78:=St.boxJ (r':=Delivery_.rep) (x':=(⟨s1.2.2.1,y4,y5.2==0,s1.2.2.2⟩:Delivery_)) h77 (λ _ _ hs_=>(Jn.iso _ (Jn.prod Jn.refl (Jn.prod Jn.refl (Jn.prod Jn.refl (Jn.prod (Jn.raw ((V.at .z) _ _ hs_) rfl) Jn.refl))))))
 have h79:=h78.pick (.s .z)
 have h80:=St.boxJ (r':=Delivery_.rep) (x':=(⟨s1.2.2.1,y4,y5.2==0,s1.2.2.2⟩:Delivery_)) h79 (λ _ _ hs_=>(Jn.iso _ (Jn.prod Jn.refl (Jn.prod Jn.refl (Jn.prod Jn.refl (Jn.prod (Jn.raw ((V.at .z) _ _ hs_) rfl) Jn.refl))))))
 obtain ⟨u29,hu2,h70⟩:=res_box h80 .z ty147
 refine Run.retP rfl (.cell rfl hu2 (.tmp rfl .nil)) ?_
 cases hF
 exact Post.mk' ⟨u29,u5,rfl,rfl,rfl,rfl⟩ (h70.picks (.cons (.s (.s .z)) (.cons (.s (.s .z)) .nil))) (.val (V.at .z) .nil)
set_option maxRecDepth 20000 in
theorem fragment_Decode_ok {fuel:Nat} {a0:List Int} {y:Packet_×Int} (hF:fragment_Decode fuel a0=some y) {w:World} {v0:Value} :
  Spec Tryz.prog 63 [v0].toArray w [(false,.val (Rep.slice (Rep.int .u8)) v0 a0)] [] (λ v Γr Ωr Ωo=>∃ u0:Value,v=.tuple #[u0,.int .i64 y.2]∧Γr=[(true,.val Packet_.rep u0 y.1)]∧Ωr=[]∧Ωo=[]):=by
 refine Spec.of (L:=[(0,v0)]) Tryz.func63 rfl ⟨rfl,trivial⟩ rfl (λ e h=>?_)
 unfold fragment_Decode at hF
 refine sr (op (OpS.alloc h ti139 Packet_.zr rfl rfl (λ u1 w1 h1=>?_)))
 refine ga rfl (nil (Run.seq (Run.block (sr (gm rfl (op (OpS.len h1 Tryz.underlying24 rfl rfl rfl (V.at .z) ?_)))))))
 refine gb rfl (ga rfl ?_)
 obtain ⟨x1,e1,hF⟩:=letP_use hF
 refine RunL.nameb e1 ?_
 refine nil ?_
 refine Run.ite rfl hF (λ e2 hF=>?_) (λ e2 hF=>?_)
 ·refine sr (op (OpS.build (f:=true) (x':=Packet_.z) h1 pl139 ti139 Packet_.zr rfl rfl rfl .nil (λ u2 h2=>?_)))
  refine op (OpS.storeB (f':=true) h2 .z PA.z Put.id ty139 rfl rfl rfl (V.at .z) (.inl rfl) (λ w2 h3=>?_))
  refine ga rfl (nil ?_)
  obtain ⟨u3,hu1,h4⟩:=res_box h3 .z ty139
  refine Run.retP rfl (.cell rfl hu1 (.tmp rfl .nil)) ?_
  cases hF
  exact Post.mk' ⟨u3,rfl,rfl,rfl,rfl⟩ (h4.picks .nil) (.val (V.at .z) .nil)
 refine sr (gm rfl ?_)
 obtain ⟨x2,e3,hF⟩:=bindP_use hF
 refine op (OpS.iptr h1 Tryz.underlying24 ty5 rfl rfl rfl rfl (V.at .z) e3 (λ u4 h5=>?_))
 refine op (OpS.loadi h5 ty5 rfl rfl rfl .z ?_)
 refine gb rfl (ga rfl ?_)
 obtain ⟨x3,e4,hF⟩:=letP_use hF
 refine RunL.nameb e4 ?_
 refine nil ?_
 refine Run.ite rfl hF (λ e5 hF=>?_) (λ e5 hF=>?_)
 ·refine sr (op (OpS.build (f:=true) (x':=Packet_.z) h5 pl139 ti139 Packet_.zr rfl rfl rfl .nil (λ u5 h6=>?_)))
  refine op (OpS.storeB (f':=true) h6 .z PA.z Put.id ty139 rfl rfl rfl (V.at .z) (.inl rfl) (λ w3 h7=>?_))
  refine ga rfl (nil ?_)
  obtain ⟨u6,hu2,h8⟩:=res_box h7 .z ty139
  refine Run.retP rfl (.cell rfl hu2 (.tmp rfl .nil)) ?_
  cases hF
  exact Post.mk' ⟨u6,rfl,rfl,rfl,rfl⟩ (h8.picks .nil) (.val (V.at .z) .nil)
 refine sr (gm rfl ?_)
 obtain ⟨x4,e6,hF⟩:=bindP_use hF
 refine op (OpS.iptr h5 Tryz.underlying24 ty5 rfl rfl rfl rfl (V.at (.s .z)) e6 (λ u7 h9=>?_))
 refine op (OpS.loadi h9 ty5 rfl rfl rfl .z ?_)
 obtain ⟨y1,e7,hF⟩:=bindP_use hF
 refine op (OpS.callP h9 Tryz.func122 rfl rfl rfl rfl (vs:=[.int .u8 x4]) rfl (fragment_endpoint_ok e7) .nil ?_)
 rintro _ w4 _ _ _ ⟨rfl,rfl,rfl,rfl⟩ h10
 have h11:=h10 rfl rfl
 simp only [ca,na] at h11
 refine op (OpS.not rfl rfl rfl ?_)
 refine gm rfl ?_
 refine RunL.join (σ:=Bool) (λ s_ L_ w_=>L_=[(0,v0),(2,u1),(16,.bool s_)]∧St e w_ [(false,.val (Rep.slice (Rep.int .u8)) v0 a0)] [(true,.box 139 Packet_.rep u1 Packet_.z)]) hF (λ s1 _ w5 hI hF=>?_) (λ j1 hj1 hF=>?_)
 ·obtain ⟨rfl,h12⟩:=hI
  refine Run.ite rfl hF (λ e8 hF=>?_) (λ e8 hF=>?_)
  ·refine sr (op (OpS.build (f:=true) (x':=Packet_.z) h12 pl139 ti139 Packet_.zr rfl rfl rfl .nil (λ u8 h13=>?_)))
   refine op (OpS.storeB (f':=true) h13 .z PA.z Put.id ty139 rfl rfl rfl (V.at .z) (.inl rfl) (λ w6 h14=>?_))
   refine ga rfl (nil ?_)
   obtain ⟨u9,hu3,h15⟩:=res_box h14 .z ty139
   refine Run.retP rfl (.cell rfl hu3 (.tmp rfl .nil)) ?_
   cases hF
   exact Post.mk' ⟨u9,rfl,rfl,rfl,rfl⟩ (h15.picks .nil) (.val (V.at .z) .nil)
  refine sr (gm rfl (op (OpS.len h12 Tryz.underlying24 rfl rfl rfl (V.at .z) ?_)))
  refine gb rfl (gb rfl (ga rfl ?_))
  obtain ⟨x5,e9,hF⟩:=letP_use hF
  refine RunL.nameb e9 ?_
  refine nil ?_
  refine Run.ite rfl hF (λ e10 hF=>?_) (λ e10 hF=>?_)
  ·refine sr (op (OpS.build (f:=true) (x':=Packet_.z) h12 pl139 ti139 Packet_.zr rfl rfl rfl .nil (λ u10 h16=>?_)))
   refine op (OpS.storeB (f':=true) h16 .z PA.z Put.id ty139 rfl rfl rfl (V.at .z) (.inl rfl) (λ w7 h17=>?_))
   refine ga rfl (nil ?_)
   obtain ⟨u11,hu4,h18⟩:=res_box h17 .z ty139
   refine Run.retP rfl (.cell rfl hu4 (.tmp rfl .nil)) ?_
   cases hF
   exact Post.mk' ⟨u11,rfl,rfl,rfl,rfl⟩ (h18.picks .nil) (.val (V.at .z) .nil)
  refine Run.skip (Run.endBlock (sr (gm rfl ?_)))
  obtain ⟨x6,e11,hF⟩:=bindP_use hF
  refine op (OpS.iptr h12 Tryz.underlying24 ty5 rfl rfl rfl rfl (V.at .z) e11 (λ u12 h19=>?_))
  refine op (OpS.loadi h19 ty5 rfl rfl rfl .z ?_)
  refine ga rfl (nil (Run.seq ?_))
  obtain ⟨x7,e12,hF⟩:=bindP_use hF
  obtain ⟨x8,e13,hF⟩:=bindP_use hF
  obtain ⟨x9,e14,hF⟩:=bindP_use hF
  obtain ⟨y2,e15,hF⟩:=bindP_use hF
  refine Run.drawV (Ωs:=[(true,.box 139 Packet_.rep u1 Packet_.z)]) [.k 39 v0,.f 40 (λ u_=>[(false,.ptr (Rep.int .u8) u_ x7)]),.k 41 (.int .u8 x7),.k 42 v0,.f 43 (λ u_=>[(false,.ptr (Rep.int .u8) u_ x8)]),.k 44 (.int .u8 x8),.k 45 (.int .u8 x6),.k 46 (.int .u8 (bAnd .u8 x6 128)),.k 47 (.bool ((bAnd .u8 x6 128) != 0)),.k 48 (.int .u8 x6),.k 49 (.int .u8 (bAnd .u8 x6 64)),.k 50 (.bool ((bAnd .u8 x6 64) != 0)),.k 51 (.int .u8 x6),.k 52 (.int .u8 (IntKind.u8.wrap (Int.tdiv x6 16))),.k 53 (.int .u8 (Int.tmod (IntKind.u8.wrap (Int.tdiv x6 16)) 4)),.k 54 (.int .i64 (IntKind.i64.wrap (Int.tmod (IntKind.u8.wrap (Int.tdiv x6 16)) 4))),.k 55 (.int .u8 x6),.k 56 (.int .u8 (bAnd .u8 x6 8)),.k 57 (.bool ((bAnd .u8 x6 8) != 0)),.k 58 (.int .u8 x6),.k 59 (.int .u8 (Int.tmod x6 8)),.k 60 (.int .i64 (IntKind.i64.wrap (Int.tmod x6 8))),.k 61 v0,.f 62 (λ u_=>[(false,.val (Rep.slice (Rep.int .u8)) u_ x9)]),.f 63 (λ u_=>[(true,.val (Rep.slice (Rep.int .u8)) u_ y2)])] [[],[0],[1],[],[3],[4],[],[6],[7],[],[9],[10],[],[12],[13],[14],[],[16],[17],[],[19],[20],[],[22],[23]] [] [0,1,2,3,4,5,6,7,8,9,10,11,12,13,14,15,16,17,18,19,20,21,22,23,24] Try_mixed rfl rfl rfl h19 (.cons ?_ (.cons ?_ (.cons ?_ (.cons ?_ (.cons ?_ (.cons ?_ (.cons ?_ (.cons ?_ (.cons ?_ (.cons ?_ (.cons ?_ (.cons ?_ (.cons ?_ (.cons ?_ (.cons ?_ (.cons ?_ (.cons ?_ (.cons ?_ (.cons ?_ (.cons ?_ (.cons ?_ (.cons ?_ (.cons ?_ (.cons ?_ (.cons ?_ .nil))))))))))))))))))))))))) (λ q1 w hq1 h=>?_)
  ·intro q1 w Γx Ωx h
   refine OpS.mv rfl rfl rfl ?_
   exact du h
  ·intro q1 w Γx Ωx h
   refine OpS.iptr h Tryz.underlying24 ty5 rfl rfl rfl rfl (V.at (.s .z)) e12 (λ u h26=>?_)
   exact ⟨u,rfl,trivial,h26⟩
  ·intro q1 w Γx Ωx h
   refine OpS.loadi h ty5 rfl rfl rfl .z ?_
   exact du h
  ·intro q1 w Γx Ωx h
   refine OpS.mv rfl rfl rfl ?_
   exact du h
  ·intro q1 w Γx Ωx h
   refine OpS.iptr h Tryz.underlying24 ty5 rfl rfl rfl rfl (V.at (.s .z)) e13 (λ u h27=>?_)
   exact ⟨u,rfl,trivial,h27⟩
  ·intro q1 w Γx Ωx h
   refine OpS.loadi h ty5 rfl rfl rfl .z ?_
   exact du h
  ·intro q1 w Γx Ωx h
   refine OpS.mv rfl rfl rfl ?_
   exact du h
  ·intro q1 w Γx Ωx h
   refine OpS.bin rfl rfl rfl rfl rfl ?_
   exact du h
  ·intro q1 w Γx Ωx h
   refine OpS.bin rfl rfl rfl rfl rfl ?_
   exact du h
  ·intro q1 w Γx Ωx h
   refine OpS.mv rfl rfl rfl ?_
   exact du h
  ·intro q1 w Γx Ωx h
   refine OpS.bin rfl rfl rfl rfl rfl ?_
   exact du h
  ·intro q1 w Γx Ωx h
   refine OpS.bin rfl rfl rfl rfl rfl ?_
   exact du h
  ·intro q1 w Γx Ωx h
   refine OpS.mv rfl rfl rfl ?_
   exact du h
  ·intro q1 w Γx Ωx h
   refine OpS.quo rfl rfl rfl rfl (by decide) ?_
   exact du h
  ·intro q1 w Γx Ωx h
   refine OpS.rem rfl rfl rfl rfl (by decide) ?_
   exact du h
  ·intro q1 w Γx Ωx h
   refine OpS.conv Tryz.underlying5 Tryz.underlying3 rfl rfl rfl ?_
   exact du h
  ·intro q1 w Γx Ωx h
   refine OpS.mv rfl rfl rfl ?_
   exact du h
  ·intro q1 w Γx Ωx h
   refine OpS.bin rfl rfl rfl rfl rfl ?_
   exact du h
  ·intro q1 w Γx Ωx h
   refine OpS.bin rfl rfl rfl rfl rfl ?_
   exact du h
  ·intro q1 w Γx Ωx h
   refine OpS.mv rfl rfl rfl ?_
   exact du h
  ·intro q1 w Γx Ωx h
   refine OpS.rem rfl rfl rfl rfl (by decide) ?_
   exact du h
  ·intro q1 w Γx Ωx h
   refine OpS.conv Tryz.underlying5 Tryz.underlying3 rfl rfl rfl ?_
   exact du h
  ·intro q1 w Γx Ωx h
   refine OpS.mv rfl rfl rfl ?_
   exact du h
  ·intro q1 w Γx Ωx h
   refine OpS.sub h Tryz.underlying24 ty5 rfl rfl rfl rfl rfl (V.at (.s .z)) e14 (λ u h28=>?_)
   exact ⟨u,rfl,trivial,h28⟩
  ·intro q1 w Γx Ωx h
   refine OpS.callP h Tryz.func113 rfl rfl rfl rfl (vs:=[(q1 23)]) rfl (slices_Clone_byte_byte_ok e15) (.cons (f:=false) (V.at .z) .nil) ?_
   rintro u w9 _ _ _ ⟨_,rfl,rfl,rfl,rfl⟩ h29
   have h30:=h29 rfl rfl
   simp only [ca,na] at h30
   have h31:=h30.freeze
   exact ⟨u,rfl,trivial,h31⟩
  have h32:=h
  refine op (OpS.build (f:=true) (x':=(⟨x7,x8,(bAnd .u8 x6 128) != 0,(bAnd .u8 x6 64) != 0,(IntKind.i64.wrap (Int.tmod (IntKind.u8.wrap (Int.tdiv x6 16)) 4)),(bAnd .u8 x6 8) != 0,(IntKind.i64.wrap (Int.tmod x6 8)),y2⟩:Packet_)) h32 pl139 ti139 Packet_.zr rfl rfl rfl (.cons rfl Packet_.f0 rfl V.int (.cons rfl Packet_.f1 rfl V.int (.cons rfl Packet_.f2 rfl V.bool (.cons rfl Packet_.f3 rfl V.bool (.cons rfl Packet_.f4 rfl V.int (.cons rfl Packet_.f5 rfl V.bool (.cons rfl Packet_.f6 rfl V.int (.cons rfl Packet_.f7 rfl (V.at (.s (.s (.s .z)))) .nil)))))))) (λ u13 h33=>?_))
  refine op (OpS.storeB (f':=true) h33 .z PA.z Put.id ty139 rfl rfl rfl (V.at .z) (.inl rfl) (λ w10 h34=>?_))
  refine ga rfl (nil (Run.slim [(3,.int .i64 0),(2,u1)] ⟨rfl,rfl,trivial⟩ ?_))
  obtain ⟨u14,hu5,h35⟩:=res_box h34 .z ty139
  refine Run.retP rfl (.cell rfl hu5 (.tmp rfl .nil)) ?_
  cases hF
  exact Post.mk' ⟨u14,rfl,rfl,rfl,rfl⟩ (h35.picks .nil) (.val (V.at .z) .nil)
 refine RunL.caseb hF (λ e16 hF=>?_) (λ e16 hF=>?_)
 ·refine gp rfl (gp rfl (gp rfl (gp rfl (gp rfl (gk rfl (ga rfl (nil (Run.slim [(0,v0),(2,u1),(16,.bool true)] ⟨rfl,rfl,rfl,trivial⟩ ?_))))))))
  exact hj1 (true) _ _ ⟨rfl,(h11.facts (.atm (.s (.s .z)) .nil)).picks (.cons .z .nil)⟩ hF
 refine gm rfl ?_
 obtain ⟨x10,e17,hF⟩:=bindP_use hF
 refine op (OpS.iptr h11 Tryz.underlying24 ty5 rfl rfl rfl rfl (V.at (.s (.s .z))) e17 (λ u15 h36=>?_))
 refine op (OpS.loadi h36 ty5 rfl rfl rfl .z ?_)
 obtain ⟨y3,e18,hF⟩:=bindP_use hF
 refine op (OpS.callP h36 Tryz.func122 rfl rfl rfl rfl (vs:=[.int .u8 x10]) rfl (fragment_endpoint_ok e18) .nil ?_)
 rintro _ w11 _ _ _ ⟨rfl,rfl,rfl,rfl⟩ h37
 have h38:=h37 rfl rfl
 simp only [ca,na] at h38
 refine op (OpS.not rfl rfl rfl ?_)
 refine gk rfl (ga rfl ?_)
 obtain ⟨x11,e19,hF⟩:=letP_use hF
 refine RunL.nameb e19 ?_
 refine nil (Run.slim [(0,v0),(2,u1),(16,.bool x11)] ⟨rfl,rfl,rfl,trivial⟩ ?_)
 exact hj1 (x11) _ _ ⟨rfl,(h38.facts (.atm (.s (.s (.s .z))) .nil)).picks (.cons .z .nil)⟩ hF
theorem fragment_Assembler_find_1_2_ok {fuel:Nat} {a0:fragment_open} {a1:Packet_} {y:Bool} (hF:fragment_Assembler_find_1_2 fuel a0 a1=some y) {w:World} {v0 v1:Value} :
  Spec Tryz.prog 199 [v0,v1].toArray w [(false,.val fragment_open.rep v0 a0),(false,.ptr Packet_.rep v1 a1)] [] (λ v Γr Ωr Ωo=>v=.bool y∧Γr=[]∧Ωr=[]∧Ωo=[]):=by
 refine Spec.of (L:=[(0,v0),(1,v1)]) Tryz.func199 rfl ⟨rfl,rfl,trivial⟩ rfl (λ e h=>?_)
 unfold fragment_Assembler_find_1_2 at hF
 refine sr (op (OpS.boxF h rfl rfl rfl (V.at .z) (λ u1 w1 h1=>?_)))
 refine ga rfl (nil (sr (op (OpS.fbox (o3:=0) h1 .z PA.z fa267_0 rfl rfl rfl rfl ?_))))
 refine op (OpS.fbox (o3:=0) h1 .z PA.a fa155_0 rfl rfl rfl rfl ?_)
 refine op (OpS.loadBi h1 .z PA.a (Get.comp (Get.fld fragment_open.f0) (Get.fld Whole_.f0)) ty5 rfl rfl rfl ?_)
 refine op (OpS.fptr h1 fa139_1 Packet_.f1 rfl rfl rfl (.s .z) (λ u2 h2=>?_))
 refine op (OpS.loadi h2 ty5 rfl rfl rfl .z ?_)
 refine gb rfl (gm rfl ?_)
 refine RunL.caseb hF (λ e1 hF=>?_) (λ e1 hF=>?_)
 ·refine op (OpS.fbox (o3:=0) h2 .z PA.z fa267_0 rfl rfl rfl rfl ?_)
  refine op (OpS.fbox (o3:=1) h2 .z PA.a fa155_1 rfl rfl rfl rfl ?_)
  refine op (OpS.loadBb h2 .z PA.a (Get.comp (Get.fld fragment_open.f0) (Get.fld Whole_.f1)) ty4 rfl rfl rfl ?_)
  refine op (OpS.fptr h2 fa139_5 Packet_.f5 rfl rfl rfl (.s (.s .z)) (λ u3 h3=>?_))
  refine op (OpS.loadb h3 ty4 rfl rfl rfl .z ?_)
  refine op (OpS.eqb Tryz.underlying4 rfl rfl rfl rfl ?_)
  refine gk rfl (gm rfl ?_)
  refine RunL.caseb hF (λ e2 hF=>?_) (λ e2 hF=>?_)
  ·refine op (OpS.fbox (o3:=0) h3 .z PA.z fa267_0 rfl rfl rfl rfl ?_)
   refine op (OpS.fbox (o3:=2) h3 .z PA.a fa155_2 rfl rfl rfl rfl ?_)
   refine op (OpS.loadBi h3 .z PA.a (Get.comp (Get.fld fragment_open.f0) (Get.fld Whole_.f2)) ty3 rfl rfl rfl ?_)
   refine op (OpS.fptr h3 fa139_6 Packet_.f6 rfl rfl rfl (.s (.s (.s .z))) (λ u4 h4=>?_))
   refine op (OpS.loadi h4 ty3 rfl rfl rfl .z ?_)
   refine gb rfl (gk rfl (ga rfl ?_))
   obtain ⟨x1,e3,hF⟩:=letP_use hF
   refine RunL.nameb e3 ?_
   refine nil (Run.retP rfl (.tmp rfl .nil) ?_)
   cases hF
   exact Post.mk' ⟨rfl,rfl,rfl,rfl⟩ (h4.picks .nil) .nil
  refine gp rfl (gp rfl (gp rfl (gp rfl (gp rfl (gp rfl (gk rfl (ga rfl (nil (Run.retP rfl (.tmp rfl .nil) ?_)))))))))
  cases hF
  exact Post.mk' ⟨rfl,rfl,rfl,rfl⟩ (h3.picks .nil) .nil
 refine gp rfl (gp rfl (gp rfl (gp rfl (gp rfl (gp rfl (gk rfl (gm rfl (gp rfl (gp rfl (gp rfl (gp rfl (gp rfl (gp rfl (gk rfl (ga rfl (nil (Run.retP rfl (.tmp rfl .nil) ?_)))))))))))))))))
 cases hF
 exact Post.mk' ⟨rfl,rfl,rfl,rfl⟩ (h2.picks .nil) .nil
theorem slices_IndexFunc_fragment_open_fragment_open_fragment_Assembler_find_1_ok {fuel:Nat} {a0:List fragment_open} {a1_0:Packet_} {y:Int} (hF:slices_IndexFunc_fragment_open_fragment_open_fragment_Assembler_find_1 fuel a0 a1_0=some y) {w:World} {v0 v1_0:Value} :
  Spec Tryz.prog 198 [v0,.func (.func 199) #[] #[v1_0]].toArray w [(false,.val (Rep.slice fragment_open.rep) v0 a0),(false,.ptr Packet_.rep v1_0 a1_0)] [] (λ v Γr Ωr Ωo=>v=.int .i64 y∧Γr=[]∧Ωr=[]∧Ωo=[]):=by
 refine Spec.of (L:=[(0,v0),(1,.func (.func 199) #[] #[v1_0])]) Tryz.func198 rfl ⟨rfl,rfl,trivial⟩ rfl (λ e h=>?_)
 unfold slices_IndexFunc_fragment_open_fragment_open_fragment_Assembler_find_1 at hF
 refine sr (ga rfl (nil (Run.seq (sr (gm rfl (op (OpS.len h Tryz.underlying243 rfl rfl rfl (V.at .z) ?_)))))))
 refine gm rfl (nil (Run.block (Run.slim [(0,v0),(1,.func (.func 199) #[] #[v1_0]),(7,.int .i64 (a0.length:Int)),(8,.int .i64 0)] ⟨rfl,rfl,rfl,rfl,trivial⟩ ?_)))
 refine Run.loopP (σ:=Int) (λ s_ L_ w_=>L_=[(0,v0),(1,.func (.func 199) #[] #[v1_0]),(7,.int .i64 (a0.length:Int)),(8,.int .i64 s_)]∧St e w_ [(false,.val (Rep.slice fragment_open.rep) v0 a0),(false,.ptr Packet_.rep v1_0 a1_0)] []) hF ⟨rfl,(h.facts (.atm .z (.atm (.s .z) .nil))).picks .nil⟩ (λ k1 hk1 s1 _ w1 hI hF=>?_)
 obtain ⟨rfl,h1⟩:=hI
 refine sr (gb rfl (nil (Run.seq ?_)))
 refine Run.ite rfl hF (λ e1 hF=>?_) (λ e1 hF=>?_)
 ·refine Run.skip (Run.seq (Run.block (sr (gm rfl (ga rfl (nil (sr (gm rfl (gm rfl (gm rfl ?_))))))))))
  obtain ⟨x1,e2,hF⟩:=bindP_use hF
  refine op (OpS.iptr h1 Tryz.underlying243 ty267 rfl rfl rfl rfl (V.at .z) e2 (λ u1 h2=>?_))
  refine op (OpS.load h2 ty267 rfl rfl rfl .z (λ u2 h3=>?_))
  obtain ⟨y1,e3,hF⟩:=bindP_use hF
  refine op (OpS.callPF (fl:=[]) (cl:=[v1_0]) h3 Tryz.func199 rfl rfl rfl rfl rfl (vs:=[u2]) rfl (fragment_Assembler_find_1_2_ok e3) (.cons (f:=false) (V.at .z) (.ptr (.s (.s (.s .z))) .nil)) ?_)
  rintro _ w2 _ _ _ ⟨rfl,rfl,rfl,rfl⟩ h4
  have h5:=h4 rfl rfl
  simp only [ca,na] at h5
  refine nil ?_
  refine Run.ite rfl hF (λ e4 hF=>?_) (λ e4 hF=>?_)
  ·refine sr (gm rfl (ga rfl (nil (Run.retP rfl (.tmp rfl .nil) ?_))))
   cases hF
   exact Post.mk' ⟨rfl,rfl,rfl,rfl⟩ (h5.picks .nil) .nil
  refine Run.skip (Run.endBlock (Run.reg (gb rfl (gm rfl (nil (Run.slim [(0,v0),(1,.func (.func 199) #[] #[v1_0]),(7,.int .i64 (a0.length:Int)),(8,.int .i64 (IntKind.i64.wrap (s1+1)))] ⟨rfl,rfl,rfl,rfl,trivial⟩ ?_))))))
  exact hk1 ((IntKind.i64.wrap (s1+1))) _ _ ⟨rfl,(h5.facts (.atm (.s (.s .z)) (.atm (.s (.s (.s .z))) .nil))).picks .nil⟩ hF
 refine Run.exit rfl ?_
 refine sr (ga rfl (nil (Run.retP rfl (.tmp rfl .nil) ?_)))
 cases hF
 exact Post.mk' ⟨rfl,rfl,rfl,rfl⟩ (h1.picks .nil) .nil
theorem fragment_Assembler_find_ok {fuel:Nat} {a0:fragment_Assembler} {a1:Packet_} {y:Int} (hF:fragment_Assembler_find fuel a0 a1=some y) {w:World} {v0 v0_0 v1:Value} :
  Spec Tryz.prog 139 [v0,v1].toArray w [(false,.val Packet_.rep v1 a1)] [(false,.box 245 (fragment_Assembler.repW v0_0) v0 a0),(false,.oval (oslice 267 6 (λ _=>fragment_open.orep)) v0_0 a0.open_)] (λ v Γr Ωr Ωo=>v=.int .i64 y∧Γr=[]∧Ωr=[]∧Ωo=[(false,.box 245 (fragment_Assembler.repW v0_0) v0 a0),(false,(.oval (oslice 267 6 (λ _=>fragment_open.orep)) v0_0 a0.open_))]):=by
 refine Spec.of (L:=[(0,v0),(1,v1)]) Tryz.func139 rfl ⟨rfl,rfl,trivial⟩ rfl (λ e h=>?_)
 unfold fragment_Assembler_find at hF
 refine sr (op (OpS.boxF h rfl rfl rfl (V.at .z) (λ u1 w1 h1=>?_)))
 refine ga rfl (nil (sr (gm rfl (op (OpS.nchk h1 (.s .z) rfl rfl rfl ?_)))))
 refine op (OpS.fbox (o3:=1) h1 (.s .z) PA.z fa245_1 rfl rfl rfl rfl ?_)
 refine op (OpS.loadR h1 (.s .z) PA.a (GetS.ok (GetS.iso _ (GetS.there (GetS.here GetS.id)))) ty243 rfl rfl rfl rfl rfl ?_)
 refine op (OpS.mkf (fl:=[]) (cl:=[u1]) rfl rfl rfl rfl ?_)
 have h2:=(h1.pick .z).freezeBox
 obtain ⟨y1,e1,hF⟩:=bindP_use hF
 refine op (OpS.callP h2 Tryz.func198 rfl rfl rfl rfl (vs:=[v0_0,.func (.func 199) #[] #[u1]]) rfl (slices_IndexFunc_fragment_open_fragment_open_fragment_Assembler_find_1_ok e1) (Args.ownF (.s .z) fragment_open.rf (.ptr .z .nil)) ?_)
 rintro _ w2 _ _ _ ⟨rfl,rfl,rfl,rfl⟩ h3
 have h4:=h3 rfl rfl
 simp only [ca,na] at h4
 refine ga rfl (nil (Run.retP rfl (.tmp rfl .nil) ?_))
 cases hF
 exact Post.mk' ⟨rfl,rfl,rfl,rfl⟩ (h4.picks (.cons .z (.cons .z .nil))) .nil
set_option maxRecDepth 20000 in
theorem slices_Delete_fragment_open_fragment_open_ok {fuel:Nat} {a0:List fragment_open} {a1:Int} {a2:Int} {y:(List fragment_open)} (hF:slices_Delete_fragment_open_fragment_open fuel a0 a1 a2=some y) {w:World} {v0:Value} {r_:ORep fragment_open} (hr_:r_.n=6) :
  Spec Tryz.prog 200 [v0,.int .i64 a1,.int .i64 a2].toArray w [] [(false,.oval (oslice 267 6 (at' (λ _=>fragment_open.orep) (a1).toNat r_)) v0 a0)] (λ v Γr Ωr Ωo=>∃ u0:Value,v=u0∧Γr=[]∧Ωr=[(false,(.oval (oslice 267 6 (λ _=>fragment_open.orep)) u0 y))]∧Ωo=[]):=by
 refine Spec.of (L:=[(0,v0),(1,.int .i64 a1),(2,.int .i64 a2)]) Tryz.func200 rfl ⟨rfl,rfl,rfl,trivial⟩ rfl (λ e h=>?_)
 unfold slices_Delete_fragment_open_fragment_open at hF
 refine sr (ga rfl (nil (sr (gm rfl (gm rfl (gm rfl (gm rfl (op (OpS.lenD h .z Tryz.underlying243 rfl rfl rfl ?_)))))))))
 obtain ⟨e1,hF⟩:=chk_use hF
 refine op (OpS.chkD h .z Tryz.underlying243 ty267 rfl rfl rfl rfl rfl rfl (of_decide_eq_true e1) (λ u1=>?_))
 refine nil (Run.seq (sr (gm rfl (gm rfl (gb rfl (nil ?_))))))
 refine Run.ite rfl hF (λ e2 hF=>?_) (λ e2 hF=>?_)
 ·refine sr (gm rfl (ga rfl (nil ?_)))
  cases hF
 refine Run.skip (sr (gm rfl (op (OpS.lenD h .z Tryz.underlying243 rfl rfl rfl ?_))))
 refine ga rfl (nil (Run.seq ?_))
 obtain ⟨e3,hF⟩:=chk_use hF
 obtain ⟨e4,hF⟩:=chk_use hF
 refine Run.drawV (Ωs:=[]) [.k 20 v0,.k 21 (.int .i64 a1),.kr 22 (pre v0 ((a1).toNat)) [0],.k 23 v0,.k 24 (.int .i64 a2),.kr 25 (Lift.part 6 v0 a2.toNat (a0.length:Int).toNat) [0]] [[],[],[0,1],[],[],[3,4]] [[(false,.oval (oslice 267 6 (at' (λ _=>fragment_open.orep) (a1).toNat r_)) v0 a0)]] [0,1,2,3,4,5,6] Try_mixed rfl rfl rfl h (.cons ?_ (.cons ?_ (.cons ?_ (.cons ?_ (.cons ?_ (.cons ?_ .nil)))))) (λ q1 w hq1 h=>?_)
 ·intro q1 w Γx Ωx h
  refine OpS.mv rfl rfl rfl ?_
  exact du h
 ·intro q1 w Γx Ωx h
  refine OpS.mv rfl rfl rfl ?_
  exact du h
 ·intro q1 w Γx Ωx h
  refine OpS.preD h .z Tryz.underlying243 ty267 rfl rfl rfl rfl rfl (of_decide_eq_true e3).1 (of_decide_eq_true e3).2 ?_
  exact du h
 ·intro q1 w Γx Ωx h
  refine OpS.mv rfl rfl rfl ?_
  exact du h
 ·intro q1 w Γx Ωx h
  refine OpS.mv rfl rfl rfl ?_
  exact du h
 ·intro q1 w Γx Ωx h
  refine OpS.partD h .z Tryz.underlying243 ty267 rfl rfl rfl rfl rfl (of_decide_eq_true e4) ?_
  exact du h
 have h1:=h
 obtain ⟨e5,hF⟩:=chk_use hF
 obtain ⟨e6,hF⟩:=chk_use hF
 refine op (OpS.moveD h1 .z (at_other (of_decide_eq_true e6)) (at_hn rfl hr_) Tryz.underlying243 ti267 rfl rfl rfl rfl (of_decide_eq_true e5) (λ u2 w1 h2=>?_))
 refine ga rfl (nil (sr (gm rfl (gm rfl (op (OpS.lenD h2 .z Tryz.underlying243 rfl rfl rfl ?_))))))
 refine gm rfl ?_
 obtain ⟨e7,hF⟩:=chk_use hF
 refine op (OpS.tailD h2 .z .z Tryz.underlying243 ty267 rfl rfl rfl rfl rfl (of_decide_eq_true e7) ?_)
 obtain ⟨e8,hF⟩:=chk_use hF
 refine op (OpS.clearD (s:=fragment_open.rep) h2 .z .z rfl rfl Tryz.underlying243 ti267 fragment_open.zr rfl rfl (of_decide_eq_true e8) (λ w2 h3=>?_))
 refine nil (sr (gm rfl (ga rfl (nil (Run.retP rfl (.tmp rfl .nil) ?_)))))
 cases hF
 exact Post.mk' ⟨u2,rfl,rfl,rfl,rfl⟩ (h3.picks (.cons .z .nil)) .nil
end Lift
