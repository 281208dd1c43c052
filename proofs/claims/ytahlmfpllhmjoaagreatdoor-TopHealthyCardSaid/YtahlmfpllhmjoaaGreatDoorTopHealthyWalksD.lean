import Derived.Test.YtahlmfpllhmjoaaGreatDoorTopHealthyWalksC
set_option linter.unusedVariables false
set_option linter.unusedSimpArgs false
namespace Lift
open Go Go.Proofs
open RunL (op sr nil gm ga gb gp gk dp du)
abbrev RqD1:Rep Conversion_:=Rep.iso (λ s:Conversion_=>(s.Form,s.Signed,s.M,s.B,s.K1,s.K2,s.Points,())) (Rep.prod (Rep.int .i64) (Rep.prod Rep.bool (Rep.prod (Rep.int .i64) (Rep.prod (Rep.int .i64) (Rep.prod (Rep.int .i64) (Rep.prod (Rep.int .i64) (Rep.prod (Rep.raw (α:=List Point_) (.slice none 0 0)) Rep.unit)))))))
abbrev GqD:Bool×Atom:=(false,.ptr (Rep.arr 6 (Rep.int .u8)) (.pointer (some ⟨0,0,none⟩)) ([0,2,4,7,9,11]))
set_option maxHeartbeats 8000000 in set_option maxRecDepth 20000 in
theorem made_Dice_Conversion_ok {fuel:Nat} {a0:made_Dice} {y:Conversion_×made_Dice} (hF:made_Dice_Conversion fuel a0=some y) {w:World} {v0:Value} :
  Spec Tryz.prog 171 [v0].toArray w [] [(false,.box 163 made_Dice.rep v0 a0)] (λ v Γr Ωr Ωo=>∃ u0:Value,v=u0∧Γr=[(true,.val Conversion_.rep u0 y.1)]∧Ωr=[]∧Ωo=[(false,.box 163 made_Dice.rep v0 y.2)]):=by
 refine Spec.of (L:=[(0,v0)]) Tryz.func171 rfl ⟨rfl,trivial⟩ rfl (λ e h=>?_)
 unfold made_Dice_Conversion at hF
 refine sr (op (OpS.alloc h ti69 Conversion_.zr rfl rfl (λ u1 w1 h1=>?_)))
 refine nil (sr (gm rfl ?_))
 obtain ⟨y1,e1,hF⟩:=bindP_use hF
 have h2:=h1.front (.cons (.s .z) .nil)
 refine op (OpS.callO h2 Tryz.func54 rfl rfl rfl rfl (vs:=[v0,.int .i64 5]) rfl (made_Dice_Next_ok e1) rfl .nil ?_)
 rintro _ w2 _ _ _ ⟨rfl,rfl,rfl,rfl⟩ h3
 have h4:=h3
 simp only [ca,na] at h4
 refine gb rfl (gm rfl ?_)
 obtain ⟨y2,e2,hF⟩:=bindP_use hF
 have h5:=h4.front (.cons .z .nil)
 refine op (OpS.callO h5 Tryz.func31 rfl rfl rfl rfl (vs:=[v0,.int .i64 2]) rfl (made_Dice_Bool_ok e2) rfl .nil ?_)
 rintro _ w3 _ _ _ ⟨rfl,rfl,rfl,rfl⟩ h6
 have h7:=h6
 simp only [ca,na] at h7
 have h8:=St.nil 211 Point_.rep h7
 refine op (OpS.buildC (f:=true) (r:=RqD1) (x:=Conversion_.z) (r':=RqD1) (x':=(⟨(IntKind.i64.wrap (1+y1.1)),y2.1,0,0,0,0,[]⟩:Conversion_)) h8 pl69 ti69 (Zr.iso (y:=Conversion_.z) _ (Zr.of (Zr.prod (Zr.int .i64 0) (Zr.prod (Zr.bool false) (Zr.prod (Zr.int .i64 0) (Zr.prod (Zr.int .i64 0) (Zr.prod (Zr.int .i64 0) (Zr.prod (Zr.int .i64 0) (Zr.prod (Zr.raw rfl ([]:List Point_)) Zr.unit))))))) (by rfl))) rfl rfl rfl (.cons (Rep.int .i64) RqD1 RqD1 Conversion_.z (⟨(IntKind.i64.wrap (1+y1.1)),false,0,0,0,0,[]⟩:Conversion_) (Chg.iso _ (Chg.here (Chg.id (by rfl)))) rfl rfl V.int (.cons Rep.bool RqD1 RqD1 (⟨(IntKind.i64.wrap (1+y1.1)),false,0,0,0,0,[]⟩:Conversion_) (⟨(IntKind.i64.wrap (1+y1.1)),y2.1,0,0,0,0,[]⟩:Conversion_) (Chg.iso _ (Chg.there (Chg.here (Chg.id (by rfl))))) rfl rfl V.bool .nil)) (λ u2 h9=>?_))
 have h10:=St.nil 211 Point_.rep h9
 refine op (OpS.alloc (r:=RqD1) h10 ti69 (Zr.iso (y:=Conversion_.z) _ (Zr.of (Zr.prod (Zr.int .i64 0) (Zr.prod (Zr.bool false) (Zr.prod (Zr.int .i64 0) (Zr.prod (Zr.int .i64 0) (Zr.prod (Zr.int .i64 0) (Zr.prod (Zr.int .i64 0) (Zr.prod (Zr.raw rfl ([]:List Point_)) Zr.unit))))))) (by rfl))) rfl rfl (λ u3 w4 h11=>?_))
 refine op (OpS.storeC (f':=true) (fr:=RqD1) (r':=RqD1) (x':=(⟨(IntKind.i64.wrap (1+y1.1)),y2.1,0,0,0,0,[]⟩:Conversion_)) h11 .z PA.z (Chg.id (by rfl)) (Ty.like ty69 (by rfl) (by rfl)) rfl rfl rfl (V.at .z) (.inl rfl) (λ w5 h12=>?_))
 refine nil (Run.seq (sr (op (OpS.fbox (o3:=0) h12 .z PA.z fa69_0 rfl rfl rfl rfl ?_))))
 refine op (OpS.loadBi h12 .z PA.a (GetS.ok (GetS.iso _ (GetS.here GetS.id))) ty3 rfl rfl rfl ?_)
 refine gb rfl (nil ?_)
 refine Run.ite rfl hF (λ e3 hF=>?_) (λ e3 hF=>?_)
 ·refine sr (gm rfl ?_)
  obtain ⟨y3,e4,hF⟩:=bindP_use hF
  have h13:=h12.front (.cons (.s (.s (.s .z))) .nil)
  refine op (OpS.callO h13 Tryz.func54 rfl rfl rfl rfl (vs:=[v0,.int .i64 1024]) rfl (made_Dice_Next_ok e4) rfl .nil ?_)
  rintro _ w6 _ _ _ ⟨rfl,rfl,rfl,rfl⟩ h14
  have h15:=h14
  simp only [ca,na] at h15
  refine gb rfl (op (OpS.fbox (o3:=2) h15 (.s .z) PA.z fa69_2 rfl rfl rfl rfl ?_))
  refine op (OpS.storeC (f':=true) (fr:=(Rep.int .i64)) (r':=RqD1) (x':=(⟨(IntKind.i64.wrap (1+y1.1)),y2.1,(IntKind.i64.wrap (y3.1-512)),0,0,0,[]⟩:Conversion_)) h15 (.s .z) PA.a (Chg.iso _ (Chg.there (Chg.there (Chg.here (Chg.id (by rfl)))))) ty3 rfl rfl rfl V.int (.inl rfl) (λ w7 h16=>?_))
  refine nil (sr (gm rfl ?_))
  obtain ⟨y4,e5,hF⟩:=bindP_use hF
  have h17:=h16.front (.cons (.s .z) .nil)
  refine op (OpS.callO h17 Tryz.func54 rfl rfl rfl rfl (vs:=[v0,.int .i64 1024]) rfl (made_Dice_Next_ok e5) rfl .nil ?_)
  rintro _ w8 _ _ _ ⟨rfl,rfl,rfl,rfl⟩ h18
  have h19:=h18
  simp only [ca,na] at h19
  refine gb rfl (op (OpS.fbox (o3:=3) h19 (.s .z) PA.z fa69_3 rfl rfl rfl rfl ?_))
  refine op (OpS.storeC (f':=true) (fr:=(Rep.int .i64)) (r':=RqD1) (x':=(⟨(IntKind.i64.wrap (1+y1.1)),y2.1,(IntKind.i64.wrap (y3.1-512)),(IntKind.i64.wrap (y4.1-512)),0,0,[]⟩:Conversion_)) h19 (.s .z) PA.a (Chg.iso _ (Chg.there (Chg.there (Chg.there (Chg.here (Chg.id (by rfl))))))) ty3 rfl rfl rfl V.int (.inl rfl) (λ w9 h20=>?_))
  refine nil (Run.seq (sr (gm rfl ?_)))
  obtain ⟨y5,e6,hF⟩:=bindP_use hF
  have h21:=h20.front (.cons (.s .z) .nil)
  refine op (OpS.callO h21 Tryz.func31 rfl rfl rfl rfl (vs:=[v0,.int .i64 2]) rfl (made_Dice_Bool_ok e6) rfl .nil ?_)
  rintro _ w10 _ _ _ ⟨rfl,rfl,rfl,rfl⟩ h22
  have h23:=h22
  simp only [ca,na] at h23
  refine nil ?_
  refine Run.join (σ:=(made_Dice×Conversion_)) (λ s_ L_ w_=>L_=[(0,v0),(2,u1),(3,u3)]∧St e w_ [] [(false,.box 163 made_Dice.rep v0 s_.1),(true,.box 69 Conversion_.rep u1 Conversion_.z),(true,.box 69 RqD1 u3 s_.2),(true,.slice 211 Point_.rep (.slice none 0 0) ([]))]) hF (λ s1 _ w11 hI hF=>?_) (λ j1 hj1 hF=>?_)
  ·obtain ⟨rfl,h24⟩:=hI
   refine sr (gm rfl ?_)
   obtain ⟨y6,e7,hF⟩:=bindP_use hF
   have h25:=h24.front (.cons .z .nil)
   refine op (OpS.callO h25 Tryz.func54 rfl rfl rfl rfl (vs:=[v0,.int .i64 7]) rfl (made_Dice_Next_ok e7) rfl .nil ?_)
   rintro _ w12 _ _ _ ⟨rfl,rfl,rfl,rfl⟩ h26
   have h27:=h26
   simp only [ca,na] at h27
   refine gb rfl (op (OpS.fbox (o3:=4) h27 (.s (.s .z)) PA.z fa69_4 rfl rfl rfl rfl ?_))
   obtain ⟨d1,e8,hF⟩:=letP_use hF
   refine op (OpS.storeC (f':=true) (fr:=(Rep.int .i64)) (r':=RqD1) (x':=d1) h27 (.s (.s .z)) PA.a (Chg.of (x':={ s1.2 with K1:=(IntKind.i64.wrap (y6.1-3)) }) (Chg.iso _ (Chg.there (Chg.there (Chg.there (Chg.there (Chg.here (Chg.id (by rfl)))))))) e8) ty3 rfl rfl rfl V.int (.inl rfl) (λ w13 h28=>?_))
   refine nil (sr (gm rfl ?_))
   obtain ⟨y7,e9,hF⟩:=bindP_use hF
   have h29:=h28.front (.cons (.s .z) .nil)
   refine op (OpS.callO h29 Tryz.func54 rfl rfl rfl rfl (vs:=[v0,.int .i64 7]) rfl (made_Dice_Next_ok e9) rfl .nil ?_)
   rintro _ w14 _ _ _ ⟨rfl,rfl,rfl,rfl⟩ h30
   have h31:=h30
   simp only [ca,na] at h31
   refine gb rfl (op (OpS.fbox (o3:=5) h31 (.s .z) PA.z fa69_5 rfl rfl rfl rfl ?_))
   obtain ⟨d2,e10,hF⟩:=letP_use hF
   refine op (OpS.storeC (f':=true) (fr:=(Rep.int .i64)) (r':=RqD1) (x':=d2) h31 (.s .z) PA.a (Chg.of (x':={ d1 with K2:=(IntKind.i64.wrap (y7.1-3)) }) (Chg.iso _ (Chg.there (Chg.there (Chg.there (Chg.there (Chg.there (Chg.here (Chg.id (by rfl))))))))) e10) ty3 rfl rfl rfl V.int (.inl rfl) (λ w15 h32=>?_))
   refine nil (sr (op (OpS.loadB (fr:=RqD1) h32 .z PA.z (GetS.ok GetS.id) (Ty.like ty69 (by rfl) (by rfl)) rfl rfl rfl (λ u4 h33=>?_))))
   refine op (OpS.storeC (f':=true) (fr:=RqD1) (r':=RqD1) (x':=d2) h33 (.s (.s .z)) PA.z (Chg.id (by rfl)) (Ty.like ty69 (by rfl) (by rfl)) rfl rfl rfl (V.at .z) (.inl rfl) (λ w16 h34=>?_))
   refine nil ?_
   obtain ⟨u5,hu1,h35⟩:=res_box h34 .z (Ty.like ty69 (by rfl) (by rfl))
   have h36:=(h35.pick (.s (.s (.s .z)))).freeze
   have h37:=h36.pick .z
   have h38:=St.boxJ (r':=Conversion_.rep) (x':={ d2 with Points:=[] }) h37 (λ _ _ hs_=>(Jn.iso _ (Jn.prod Jn.refl (Jn.prod Jn.refl (Jn.prod Jn.refl (Jn.prod Jn.refl (Jn.prod Jn.refl (Jn.prod Jn.refl (Jn.prod (Jn.raw ((V.at .z) _ _ hs_) rfl) Jn.refl)))))))))
   have h39:=h38.pick (.s .z)
   have h40:=St.boxJ (r':=Conversion_.rep) (x':={ d2 with Points:=[] }) h39 (λ _ _ hs_=>(Jn.iso _ (Jn.prod Jn.refl (Jn.prod Jn.refl (Jn.prod Jn.refl (Jn.prod Jn.refl (Jn.prod Jn.refl (Jn.prod Jn.refl (Jn.prod (Jn.raw ((V.at .z) _ _ hs_) rfl) Jn.refl)))))))))
   have h41:=St.addV (f:=true) (r:=Conversion_.rep) (x:={ d2 with Points:=[] }) h40 (V.jn (r:=RqD1) (x:=d2) (V.at (.s .z)) rfl (λ _ _ hs_=>(Jn.iso _ (Jn.prod Jn.refl (Jn.prod Jn.refl (Jn.prod Jn.refl (Jn.prod Jn.refl (Jn.prod Jn.refl (Jn.prod Jn.refl (Jn.prod (Jn.raw ((V.at .z) _ _ hs_) rfl) Jn.refl))))))))))
   refine Run.retP rfl (.cell rfl hu1 .nil) ?_
   cases hF
   exact Post.mk' ⟨u5,rfl,rfl,rfl,rfl⟩ (h41.picks (.cons (.s (.s .z)) .nil)) (.val (V.at .z) .nil)
  refine Run.ite rfl hF (λ e11 hF=>?_) (λ e11 hF=>?_)
  ·refine sr (gm rfl ?_)
   obtain ⟨y8,e12,hF⟩:=bindP_use hF
   have h42:=h23.front (.cons .z .nil)
   refine op (OpS.callO h42 Tryz.func54 rfl rfl rfl rfl (vs:=[v0,.int .i64 21]) rfl (made_Dice_Next_ok e12) rfl .nil ?_)
   rintro _ w17 _ _ _ ⟨rfl,rfl,rfl,rfl⟩ h43
   have h44:=h43
   simp only [ca,na] at h44
   refine gb rfl (op (OpS.fbox (o3:=2) h44 (.s .z) PA.z fa69_2 rfl rfl rfl rfl ?_))
   refine op (OpS.storeC (f':=true) (fr:=(Rep.int .i64)) (r':=RqD1) (x':=(⟨(IntKind.i64.wrap (1+y1.1)),y2.1,(IntKind.i64.wrap (y8.1-10)),(IntKind.i64.wrap (y4.1-512)),0,0,[]⟩:Conversion_)) h44 (.s .z) PA.a (Chg.iso _ (Chg.there (Chg.there (Chg.here (Chg.id (by rfl)))))) ty3 rfl rfl rfl V.int (.inl rfl) (λ w18 h45=>?_))
   refine nil (Run.reg (gm rfl ?_))
   obtain ⟨y9,e13,hF⟩:=bindP_use hF
   have h46:=h45.front (.cons (.s .z) .nil)
   refine op (OpS.callO h46 Tryz.func54 rfl rfl rfl rfl (vs:=[v0,.int .i64 41]) rfl (made_Dice_Next_ok e13) rfl .nil ?_)
   rintro _ w19 _ _ _ ⟨rfl,rfl,rfl,rfl⟩ h47
   have h48:=h47
   simp only [ca,na] at h48
   refine gb rfl (op (OpS.fbox (o3:=3) h48 (.s .z) PA.z fa69_3 rfl rfl rfl rfl ?_))
   refine op (OpS.storeC (f':=true) (fr:=(Rep.int .i64)) (r':=RqD1) (x':=(⟨(IntKind.i64.wrap (1+y1.1)),y2.1,(IntKind.i64.wrap (y8.1-10)),(IntKind.i64.wrap (y9.1-20)),0,0,[]⟩:Conversion_)) h48 (.s .z) PA.a (Chg.iso _ (Chg.there (Chg.there (Chg.there (Chg.here (Chg.id (by rfl))))))) ty3 rfl rfl rfl V.int (.inl rfl) (λ w20 h49=>?_))
   refine nil (Run.slim [(0,v0),(2,u1),(3,u3)] ⟨rfl,rfl,rfl,trivial⟩ ?_)
   exact hj1 (y9.2,(⟨(IntKind.i64.wrap (1+y1.1)),y2.1,(IntKind.i64.wrap (y8.1-10)),(IntKind.i64.wrap (y9.1-20)),0,0,[]⟩:Conversion_)) _ _ ⟨rfl,(h49.facts .nil).picks (.cons (.s .z) (.cons (.s (.s (.s .z))) (.cons .z (.cons (.s .z) .nil))))⟩ hF
  refine Run.skip (Run.slim [(0,v0),(2,u1),(3,u3)] ⟨rfl,rfl,rfl,trivial⟩ ?_)
  exact hj1 (y5.2,(⟨(IntKind.i64.wrap (1+y1.1)),y2.1,(IntKind.i64.wrap (y3.1-512)),(IntKind.i64.wrap (y4.1-512)),0,0,[]⟩:Conversion_)) _ _ ⟨rfl,(h23.facts .nil).picks (.cons .z (.cons (.s (.s (.s .z))) (.cons .z (.cons (.s .z) .nil))))⟩ hF
 refine Run.skip (sr (gm rfl ?_))
 obtain ⟨y10,e14,hF⟩:=bindP_use hF
 have h50:=h12.front (.cons (.s (.s (.s .z))) .nil)
 refine op (OpS.callO h50 Tryz.func54 rfl rfl rfl rfl (vs:=[v0,.int .i64 11]) rfl (made_Dice_Next_ok e14) rfl .nil ?_)
 rintro _ w21 _ _ _ ⟨rfl,rfl,rfl,rfl⟩ h51
 have h52:=h51
 simp only [ca,na] at h52
 refine gb rfl (ga rfl ?_)
 obtain ⟨x1,e15,hF⟩:=letP_use hF
 refine RunL.name e15 ?_
 refine nil (sr (op (OpS.fbox (o3:=1) h52 (.s .z) PA.z fa69_1 rfl rfl rfl rfl ?_)))
 refine op (OpS.loadBb h52 (.s .z) PA.a (GetS.ok (GetS.iso _ (GetS.there (GetS.here GetS.id)))) ty4 rfl rfl rfl ?_)
 obtain ⟨y11,e16,hF⟩:=bindP_use hF
 refine op (OpS.callP h52 Tryz.func222 rfl rfl rfl rfl (vs:=[.bool y2.1]) rfl (ref04_Least_ok e16) .nil ?_)
 rintro _ w22 _ _ _ ⟨rfl,rfl,rfl,rfl⟩ h53
 have h54:=h53 rfl rfl
 simp only [ca,na] at h54
 refine gm rfl ?_
 obtain ⟨y12,e17,hF⟩:=bindP_use hF
 have h55:=h54.front (.cons .z .nil)
 refine op (OpS.callO h55 Tryz.func54 rfl rfl rfl rfl (vs:=[v0,.int .i64 40]) rfl (made_Dice_Next_ok e17) rfl .nil ?_)
 rintro _ w23 _ _ _ ⟨rfl,rfl,rfl,rfl⟩ h56
 have h57:=h56
 simp only [ca,na] at h57
 refine gb rfl (ga rfl ?_)
 obtain ⟨x2,e18,hF⟩:=letP_use hF
 refine RunL.name e18 ?_
 refine nil (Run.seq (sr (ga rfl (nil (Run.block (Run.slim [(0,v0),(2,u1),(3,u3),(4,.int .i64 x1),(5,.int .i64 x2),(6,.int .i64 0)] ⟨rfl,rfl,rfl,rfl,rfl,rfl,trivial⟩ ?_))))))
 refine Run.loopP (σ:=(Int×Int×made_Dice×(List Point_))) (λ s_ L_ w_=>∃ u0_:Value,L_=[(0,v0),(2,u1),(3,u3),(4,.int .i64 x1),(5,.int .i64 s_.1),(6,.int .i64 s_.2.1)]∧St e w_ [] [(false,.box 163 made_Dice.rep v0 s_.2.2.1),(true,.box 69 Conversion_.rep u1 Conversion_.z),(true,.box 69 (Rep.iso (λ s:Conversion_=>(s.Form,s.Signed,s.M,s.B,s.K1,s.K2,s.Points,())) (Rep.prod (Rep.int .i64) (Rep.prod Rep.bool (Rep.prod (Rep.int .i64) (Rep.prod (Rep.int .i64) (Rep.prod (Rep.int .i64) (Rep.prod (Rep.int .i64) (Rep.prod (Rep.raw (α:=List Point_) u0_) Rep.unit)))))))) u3 (⟨(IntKind.i64.wrap (1+y1.1)),y2.1,0,0,0,0,[]⟩:Conversion_)),(true,.slice 211 Point_.rep u0_ s_.2.2.2)]) hF ⟨(.slice none 0 0),rfl,(h57.facts .nil).picks (.cons .z (.cons (.s (.s (.s .z))) (.cons .z (.cons (.s .z) .nil))))⟩ (λ k1 hk1 s2 _ w24 hI hF=>?_)
 obtain ⟨u6,rfl,h58⟩:=hI
 refine Run.seq (sr (gm rfl (gm rfl (gb rfl (nil ?_)))))
 refine Run.ite rfl hF (λ e19 hF=>?_) (λ e19 hF=>?_)
 ·refine Run.skip (Run.seq (Run.block (Run.seq ?_)))
  have h59:=h58.picks (.cons .z (.cons (.s .z) (.cons .z (.cons .z .nil))))
  obtain ⟨y13,e20,hF⟩:=bindP_use hF
  obtain ⟨y14,e21,hF⟩:=bindP_use hF
  refine Run.drawV (Ωs:=[(true,.box 69 Conversion_.rep u1 Conversion_.z),(true,.slice 211 Point_.rep u6 s2.2.2.2)]) [.kr 57 (padd u3 6) [1],.kr 58 u6 [1],.k 59 (.int .i64 s2.1),.k 60 (.int .u8 y13),.k 61 v0,⟨some 62,some (.int .i64 y14.1),λ _=>[],λ ds_ u_=>[(false,.box 163 made_Dice.rep v0 y14.2)],[0],[],none⟩,.f 63 (λ u_=>[(true,.val Point_.rep u_ (⟨y13,y14.1⟩:Point_))]),.f 64 (λ u_=>[(true,.val (Rep.slice Point_.rep) u_ ([(⟨y13,y14.1⟩:Point_)]))])] [[],[0],[],[2],[],[4],[3,5],[6]] [[(false,.box 163 made_Dice.rep v0 s2.2.2.1)],[(true,.box 69 (Rep.iso (λ s:Conversion_=>(s.Form,s.Signed,s.M,s.B,s.K1,s.K2,s.Points,())) (Rep.prod (Rep.int .i64) (Rep.prod Rep.bool (Rep.prod (Rep.int .i64) (Rep.prod (Rep.int .i64) (Rep.prod (Rep.int .i64) (Rep.prod (Rep.int .i64) (Rep.prod (Rep.raw (α:=List Point_) u6) Rep.unit)))))))) u3 (⟨(IntKind.i64.wrap (1+y1.1)),y2.1,0,0,0,0,[]⟩:Conversion_))]] [1,2,3,4,5,6,7,8,9] Try_mixed rfl rfl rfl h59 (.cons ?_ (.cons ?_ (.cons ?_ (.cons ?_ (.cons ?_ (.cons ?_ (.cons ?_ (.cons ?_ .nil)))))))) (λ q1 w hq1 h=>?_)
  ·intro q1 w Γx Ωx h
   refine OpS.fbox (o3:=6) h .z PA.z fa69_6 rfl rfl rfl rfl ?_
   exact du h
  ·intro q1 w Γx Ωx h
   refine OpS.loadR h .z PA.a (GetS.ok (GetS.iso _ (GetS.there (GetS.there (GetS.there (GetS.there (GetS.there (GetS.there (GetS.here GetS.id))))))))) ty67 rfl rfl rfl rfl rfl ?_
   exact du h
  ·intro q1 w Γx Ωx h
   refine OpS.mv rfl rfl rfl ?_
   exact du h
  ·intro q1 w Γx Ωx h
   refine OpS.callP h Tryz.func223 rfl rfl rfl rfl (vs:=[.int .i64 s2.1]) rfl (ref04_Raw_ok e20) .nil ?_
   rintro _ w28 _ _ _ ⟨rfl,rfl,rfl,rfl⟩ h67
   have h68:=h67 rfl rfl
   simp only [ca,na] at h68
   exact ⟨undef,rfl,trivial,h68⟩
  ·intro q1 w Γx Ωx h
   refine OpS.mv rfl rfl rfl ?_
   exact du h
  ·intro q1 w Γx Ωx h
   have h69:=h.front (.cons .z .nil)
   refine OpS.callO h69 Tryz.func224 rfl rfl rfl rfl (vs:=[v0]) rfl (made_Dice_Micro_ok e21) rfl .nil ?_
   rintro _ w29 _ _ _ ⟨rfl,rfl,rfl,rfl⟩ h70
   have h71:=h70
   simp only [ca,na] at h71
   exact ⟨undef,rfl,trivial,h71⟩
  ·intro q1 w Γx Ωx h
   refine OpS.build (f:=true) (x':=(⟨y13,y14.1⟩:Point_)) h pl211 ti211 Point_.zr rfl rfl rfl (.cons rfl Point_.f0 rfl V.int (.cons rfl Point_.f1 rfl V.int .nil)) (λ u h72=>?_)
   exact ⟨u,rfl,trivial,h72⟩
  ·intro q1 w Γx Ωx h
   refine OpS.lit (r:=Point_.rep) (f:=true) h Tryz.underlying67 ti211 rfl rfl rfl rfl rfl (.cons rfl (V.at .z) .nil) rfl rfl (λ u w30 h73=>?_)
   exact ⟨u,rfl,trivial,h73⟩
  have h74:=h
  obtain ⟨x3,e22,hF⟩:=bindP_use hF
  refine op (OpS.app (f':=true) h74 (.s (.s (.s .z))) Tryz.underlying67 ti211 rfl rfl rfl rfl rfl rfl rfl (V.at (.s .z)) (.inr Point_.pure) e22 (λ u7 w31 h75=>?_))
  refine op (OpS.fbox (o3:=6) h75 (.s .z) PA.z fa69_6 rfl rfl rfl rfl ?_)
  refine op (OpS.storeC (f':=true) (fr:=(Rep.raw u7)) (r':=(Rep.iso (λ s:Conversion_=>(s.Form,s.Signed,s.M,s.B,s.K1,s.K2,s.Points,())) (Rep.prod (Rep.int .i64) (Rep.prod Rep.bool (Rep.prod (Rep.int .i64) (Rep.prod (Rep.int .i64) (Rep.prod (Rep.int .i64) (Rep.prod (Rep.int .i64) (Rep.prod (Rep.raw (α:=List Point_) u7) Rep.unit))))))))) (x':=(⟨(IntKind.i64.wrap (1+y1.1)),y2.1,0,0,0,0,[]⟩:Conversion_)) h75 (.s .z) PA.a (Chg.iso _ (Chg.there (Chg.there (Chg.there (Chg.there (Chg.there (Chg.there (Chg.here (Chg.id (by rfl)))))))))) (Ty.like ty67 (by rfl) (by rfl)) rfl rfl rfl (V.raw (f:=true) (St.own1 h75 .z) ([])) (.inl rfl) (λ w32 h76=>?_))
  refine nil (Run.reg (gm rfl (gm rfl ?_)))
  obtain ⟨y15,e23,hF⟩:=bindP_use hF
  have h77:=h76.front (.cons (.s (.s .z)) .nil)
  refine op (OpS.callO h77 Tryz.func54 rfl rfl rfl rfl (vs:=[v0,.int .i64 18]) rfl (made_Dice_Next_ok e23) rfl .nil ?_)
  rintro _ w33 _ _ _ ⟨rfl,rfl,rfl,rfl⟩ h78
  have h79:=h78
  simp only [ca,na] at h79
  refine gb rfl (gb rfl (ga rfl ?_))
  obtain ⟨x4,e24,hF⟩:=letP_use hF
  refine RunL.name e24 ?_
  refine nil (Run.endBlock (Run.reg (gm rfl (gb rfl (ga rfl ?_)))))
  obtain ⟨x5,e25,hF⟩:=letP_use hF
  refine RunL.name e25 ?_
  refine nil (Run.slim [(0,v0),(2,u1),(3,u3),(4,.int .i64 x1),(5,.int .i64 x4),(6,.int .i64 x5)] ⟨rfl,rfl,rfl,rfl,rfl,rfl,trivial⟩ ?_)
  exact hk1 (x4,x5,y15.2,x3) _ _ ⟨u7,rfl,(h79.facts .nil).picks (.cons .z (.cons (.s (.s .z)) (.cons .z (.cons .z .nil))))⟩ hF
 refine Run.exit rfl ?_
 refine sr (op (OpS.loadB (fr:=(Rep.iso (λ s:Conversion_=>(s.Form,s.Signed,s.M,s.B,s.K1,s.K2,s.Points,())) (Rep.prod (Rep.int .i64) (Rep.prod Rep.bool (Rep.prod (Rep.int .i64) (Rep.prod (Rep.int .i64) (Rep.prod (Rep.int .i64) (Rep.prod (Rep.int .i64) (Rep.prod (Rep.raw (α:=List Point_) u6) Rep.unit))))))))) h58 (.s (.s .z)) PA.z (GetS.ok GetS.id) (Ty.like ty69 (by rfl) (by rfl)) rfl rfl rfl (λ u8 h80=>?_)))
 refine op (OpS.storeC (f':=true) (fr:=(Rep.iso (λ s:Conversion_=>(s.Form,s.Signed,s.M,s.B,s.K1,s.K2,s.Points,())) (Rep.prod (Rep.int .i64) (Rep.prod Rep.bool (Rep.prod (Rep.int .i64) (Rep.prod (Rep.int .i64) (Rep.prod (Rep.int .i64) (Rep.prod (Rep.int .i64) (Rep.prod (Rep.raw (α:=List Point_) u6) Rep.unit))))))))) (r':=(Rep.iso (λ s:Conversion_=>(s.Form,s.Signed,s.M,s.B,s.K1,s.K2,s.Points,())) (Rep.prod (Rep.int .i64) (Rep.prod Rep.bool (Rep.prod (Rep.int .i64) (Rep.prod (Rep.int .i64) (Rep.prod (Rep.int .i64) (Rep.prod (Rep.int .i64) (Rep.prod (Rep.raw (α:=List Point_) u6) Rep.unit))))))))) (x':=(⟨(IntKind.i64.wrap (1+y1.1)),y2.1,0,0,0,0,[]⟩:Conversion_)) h80 (.s .z) PA.z (Chg.id (by rfl)) (Ty.like ty69 (by rfl) (by rfl)) rfl rfl rfl (V.at .z) (.inl rfl) (λ w34 h81=>?_))
 refine nil ?_
 obtain ⟨u9,hu2,h82⟩:=res_box h81 .z (Ty.like ty69 (by rfl) (by rfl))
 have h83:=(h82.pick (.s (.s (.s .z)))).freeze
 have h84:=h83.pick .z
 have h85:=St.boxJ (r':=Conversion_.rep) (x':=(⟨(IntKind.i64.wrap (1+y1.1)),y2.1,0,0,0,0,s2.2.2.2⟩:Conversion_)) h84 (λ _ _ hs_=>(Jn.iso _ (Jn.prod Jn.refl (Jn.prod Jn.refl (Jn.prod Jn.refl (Jn.prod Jn.refl (Jn.prod Jn.refl (Jn.prod Jn.refl (Jn.prod (Jn.raw ((V.at .z) _ _ hs_) rfl) Jn.refl)))))))))
 have h86:=h85.pick (.s (.s .z))
 have h87:=St.boxJ (r':=Conversion_.rep) (x':=(⟨(IntKind.i64.wrap (1+y1.1)),y2.1,0,0,0,0,s2.2.2.2⟩:Conversion_)) h86 (λ _ _ hs_=>(Jn.iso _ (Jn.prod Jn.refl (Jn.prod Jn.refl (Jn.prod Jn.refl (Jn.prod Jn.refl (Jn.prod Jn.refl (Jn.prod Jn.refl (Jn.prod (Jn.raw ((V.at .z) _ _ hs_) rfl) Jn.refl)))))))))
 have h88:=St.addV (f:=true) (r:=Conversion_.rep) (x:=(⟨(IntKind.i64.wrap (1+y1.1)),y2.1,0,0,0,0,s2.2.2.2⟩:Conversion_)) h87 (V.jn (r:=(Rep.iso (λ s:Conversion_=>(s.Form,s.Signed,s.M,s.B,s.K1,s.K2,s.Points,())) (Rep.prod (Rep.int .i64) (Rep.prod Rep.bool (Rep.prod (Rep.int .i64) (Rep.prod (Rep.int .i64) (Rep.prod (Rep.int .i64) (Rep.prod (Rep.int .i64) (Rep.prod (Rep.raw (α:=List Point_) u6) Rep.unit))))))))) (x:=(⟨(IntKind.i64.wrap (1+y1.1)),y2.1,0,0,0,0,[]⟩:Conversion_)) (V.at (.s .z)) rfl (λ _ _ hs_=>(Jn.iso _ (Jn.prod Jn.refl (Jn.prod Jn.refl (Jn.prod Jn.refl (Jn.prod Jn.refl (Jn.prod Jn.refl (Jn.prod Jn.refl (Jn.prod (Jn.raw ((V.at .z) _ _ hs_) rfl) Jn.refl))))))))))
 refine Run.retP rfl (.cell rfl hu2 .nil) ?_
 cases hF
 exact Post.mk' ⟨u9,rfl,rfl,rfl,rfl⟩ (h88.picks (.cons (.s (.s .z)) .nil)) (.val (V.at .z) .nil)
theorem ref10_Has_ok {fuel:Nat} {a0:Int} {a1:Int} {y:Bool} (hF:ref10_Has fuel a0 a1=some y) {w:World} :
  Spec Tryz.prog 225 [.int .u16 a0,.int .i64 a1].toArray w [] [] (λ v Γr Ωr Ωo=>v=.bool y∧Γr=[]∧Ωr=[]∧Ωo=[]):=by
 refine Spec.of (L:=[(0,.int .u16 a0),(1,.int .i64 a1)]) Tryz.func225 rfl ⟨rfl,rfl,trivial⟩ rfl (λ e h=>?_)
 unfold ref10_Has at hF
 refine sr (ga rfl (nil (sr (gm rfl (gm rfl (op (OpS.conv Tryz.underlying3 Tryz.underlying271 rfl rfl rfl ?_)))))))
 obtain ⟨e1,hF⟩:=chk_use hF
 refine op (OpS.shr rfl rfl rfl rfl e1 ?_)
 refine op (OpS.rem rfl rfl rfl rfl (by decide) ?_)
 refine gb rfl (ga rfl ?_)
 obtain ⟨x1,e2,hF⟩:=letP_use hF
 refine RunL.nameb e2 ?_
 refine nil (Run.retP rfl (.tmp rfl .nil) ?_)
 cases hF
 exact Post.mk' ⟨rfl,rfl,rfl,rfl⟩ (h.picks .nil) .nil
set_option maxRecDepth 20000 in
theorem made_Dice_thresholds_ok {fuel:Nat} {a0:made_Dice} {a1:Bool} {y:Thresholds_×made_Dice} (hF:made_Dice_thresholds fuel a0 a1=some y) {w:World} {v0:Value} :
  Spec Tryz.prog 172 [v0,.bool a1].toArray w [] [(false,.box 163 made_Dice.rep v0 a0)] (λ v Γr Ωr Ωo=>∃ u0:Value,v=u0∧Γr=[(true,.val Thresholds_.rep u0 y.1)]∧Ωr=[]∧Ωo=[(false,.box 163 made_Dice.rep v0 y.2)]):=by
 refine Spec.of (L:=[(0,v0),(1,.bool a1)]) Tryz.func172 rfl ⟨rfl,rfl,trivial⟩ rfl (λ e h=>?_)
 unfold made_Dice_thresholds at hF
 refine sr (op (OpS.alloc h ti72 Thresholds_.zr rfl rfl (λ u1 w1 h1=>?_)))
 refine nil (sr (gm rfl ?_))
 obtain ⟨y1,e1,hF⟩:=bindP_use hF
 have h2:=h1.front (.cons (.s .z) .nil)
 refine op (OpS.callO h2 Tryz.func54 rfl rfl rfl rfl (vs:=[v0,.int .i64 64]) rfl (made_Dice_Next_ok e1) rfl .nil ?_)
 rintro _ w2 _ _ _ ⟨rfl,rfl,rfl,rfl⟩ h3
 have h4:=h3
 simp only [ca,na] at h4
 refine op (OpS.conv Tryz.underlying3 Tryz.underlying5 rfl rfl rfl ?_)
 refine op (OpS.build (f:=true) (x':=(⟨(IntKind.u8.wrap y1.1),(List.replicate 6 0)⟩:Thresholds_)) h4 pl72 ti72 Thresholds_.zr rfl rfl rfl (.cons rfl Thresholds_.f0 rfl V.int .nil) (λ u2 h5=>?_))
 refine op (OpS.alloc h5 ti72 Thresholds_.zr rfl rfl (λ u3 w3 h6=>?_))
 refine op (OpS.storeB (f':=true) h6 .z PA.z Put.id ty72 rfl rfl rfl (V.at .z) (.inl rfl) (λ w4 h7=>?_))
 refine nil (sr (gm rfl ?_))
 obtain ⟨y2,e2,hF⟩:=bindP_use hF
 refine op (OpS.callP h7 Tryz.func222 rfl rfl rfl rfl (vs:=[.bool a1]) rfl (ref04_Least_ok e2) .nil ?_)
 rintro _ w5 _ _ _ ⟨rfl,rfl,rfl,rfl⟩ h8
 have h9:=h8 rfl rfl
 simp only [ca,na] at h9
 refine gm rfl ?_
 obtain ⟨y3,e3,hF⟩:=bindP_use hF
 have h10:=h9.front (.cons (.s .z) .nil)
 refine op (OpS.callO h10 Tryz.func54 rfl rfl rfl rfl (vs:=[v0,.int .i64 40]) rfl (made_Dice_Next_ok e3) rfl .nil ?_)
 rintro _ w6 _ _ _ ⟨rfl,rfl,rfl,rfl⟩ h11
 have h12:=h11
 simp only [ca,na] at h12
 refine gb rfl (ga rfl ?_)
 obtain ⟨x1,e4,hF⟩:=letP_use hF
 refine RunL.name e4 ?_
 refine nil (sr (op (OpS.buildA (f:=true) (r:=(Rep.int .i64)) h12 Tryz.underlying346 ti3 rfl ti346 rfl rfl rfl (.cons rfl V.int (.cons rfl V.int (.cons rfl V.int (.cons rfl V.int (.cons rfl V.int (.cons rfl V.int .nil)))))) rfl (λ u4 h13=>?_))))
 refine op (OpS.alloc h13 ti346 (Zr.of (Zr.arr (Zr.int .i64 0) 6) rfl) rfl rfl (λ u5 w7 h14=>?_))
 obtain ⟨d1,e5,hF⟩:=letP_use hF
 refine op (OpS.storeB (f':=true) h14 .z PA.z (Put.of Put.id e5) ty346 rfl rfl rfl (V.at .z) (.inl rfl) (λ w8 h15=>?_))
 refine nil (Run.seq (sr (ga rfl (nil (Run.block (Run.slim [(0,v0),(4,u1),(5,u3),(6,.int .i64 x1),(7,u5),(8,.int .i64 0)] ⟨rfl,rfl,rfl,rfl,rfl,rfl,trivial⟩ ?_))))))
 refine Run.loopP (σ:=(Int×Int×made_Dice×Thresholds_)) (λ s_ L_ w_=>L_=[(0,v0),(4,u1),(5,u3),(6,.int .i64 s_.1),(7,u5),(8,.int .i64 s_.2.1)]∧St e w_ [] [(false,.box 163 made_Dice.rep v0 s_.2.2.1),(true,.box 72 Thresholds_.rep u1 Thresholds_.z),(true,.box 72 Thresholds_.rep u3 s_.2.2.2),(true,.box 346 (Rep.arr 6 (Rep.int .i64)) u5 d1)]) hF ⟨rfl,(h15.facts .nil).picks (.cons (.s .z) (.cons (.s (.s .z)) (.cons (.s .z) (.cons .z .nil))))⟩ (λ k1 hk1 s1 _ w9 hI hF=>?_)
 obtain ⟨rfl,h16⟩:=hI
 refine Run.seq (sr (gm rfl (gb rfl (nil ?_))))
 refine Run.ite rfl hF (λ e6 hF=>?_) (λ e6 hF=>?_)
 ·refine Run.skip (Run.seq (Run.block (Run.seq (sr (gm rfl (gb rfl (nil ?_)))))))
  refine Run.join (σ:=Int) (λ s_ L_ w_=>L_=[(0,v0),(4,u1),(5,u3),(6,.int .i64 s_),(7,u5),(8,.int .i64 s1.2.1)]∧St e w_ [] [(false,.box 163 made_Dice.rep v0 s1.2.2.1),(true,.box 72 Thresholds_.rep u1 Thresholds_.z),(true,.box 72 Thresholds_.rep u3 s1.2.2.2),(true,.box 346 (Rep.arr 6 (Rep.int .i64)) u5 d1)]) hF (λ s2 _ w10 hI hF=>?_) (λ j1 hj1 hF=>?_)
  ·obtain ⟨rfl,h17⟩:=hI
   refine Run.seq ?_
   have h18:=h17.picks (.cons (.s (.s .z)) (.cons (.s (.s .z)) (.cons .z (.cons .z .nil))))
   obtain ⟨x2,e7,hF⟩:=bindP_use hF
   obtain ⟨e8,hF⟩:=chk_use hF
   refine Run.drawV (Ωs:=[(false,.box 163 made_Dice.rep v0 s1.2.2.1),(true,.box 72 Thresholds_.rep u1 Thresholds_.z)]) [.kr 27 (padd u3 0) [0],.kr 28 (.int .u8 s1.2.2.2.Mask) [0],.k 29 (.int .u16 (IntKind.u16.wrap s1.2.2.2.Mask)),.k 30 (.int .i64 s1.2.1),.kr 31 (padd u5 (0+(s1.2.1:Int).toNat*(Rep.int .i64).n)) [1],.kr 32 (.int .i64 x2) [1]] [[],[0],[1],[],[3],[4]] [[(true,.box 72 Thresholds_.rep u3 s1.2.2.2)],[(true,.box 346 (Rep.arr 6 (Rep.int .i64)) u5 d1)]] [0,1,2,3,4,5,6,7] Try_mixed rfl rfl rfl h18 (.cons ?_ (.cons ?_ (.cons ?_ (.cons ?_ (.cons ?_ (.cons ?_ .nil)))))) (λ q1 w hq1 h=>?_)
   ·intro q1 w Γx Ωx h
    refine OpS.fbox (o3:=0) h .z PA.z fa72_0 rfl rfl rfl rfl ?_
    exact du h
   ·intro q1 w Γx Ωx h
    refine OpS.loadBi h .z PA.a (Get.fld Thresholds_.f0) ty5 rfl rfl rfl ?_
    exact du h
   ·intro q1 w Γx Ωx h
    refine OpS.conv Tryz.underlying5 Tryz.underlying49 rfl rfl rfl ?_
    exact du h
   ·intro q1 w Γx Ωx h
    refine OpS.mv rfl rfl rfl ?_
    exact du h
   ·intro q1 w Γx Ωx h
    refine OpS.ibox h .z PA.z Tryz.underlying346 ty3 (Nat.eq_of_beq_eq_true e8) rfl rfl rfl rfl e7 ?_
    exact du h
   ·intro q1 w Γx Ωx h
    refine OpS.loadBi h .z PA.a (Get.comp Get.id (Get.arr e7)) ty3 rfl rfl rfl ?_
    exact du h
   have h19:=h
   obtain ⟨y4,e9,hF⟩:=bindP_use hF
   refine op (OpS.callP h19 Tryz.func225 rfl rfl rfl rfl (vs:=[.int .u16 (IntKind.u16.wrap s1.2.2.2.Mask),.int .i64 x2]) rfl (ref10_Has_ok e9) .nil ?_)
   rintro _ w11 _ _ _ ⟨rfl,rfl,rfl,rfl⟩ h20
   have h21:=h20 rfl rfl
   simp only [ca,na] at h21
   refine nil ?_
   refine Run.ite rfl hF (λ e10 hF=>?_) (λ e10 hF=>?_)
   ·refine Run.seq ?_
    obtain ⟨x3,e11,hF⟩:=bindP_use hF
    obtain ⟨e12,hF⟩:=chk_use hF
    obtain ⟨y5,e13,hF⟩:=bindP_use hF
    refine Run.drawV (Ωs:=[(false,.box 163 made_Dice.rep v0 s1.2.2.1),(true,.box 72 Thresholds_.rep u1 Thresholds_.z)]) [.k 34 (.int .i64 s1.2.1),.kr 35 (padd u5 (0+(s1.2.1:Int).toNat*(Rep.int .i64).n)) [1],.kr 36 (.int .i64 x3) [1],.k 37 (.int .i64 s2),.k 38 (.int .u8 y5),.kr 39 (padd u3 1) [0]] [[],[0],[1],[],[3],[]] [[(true,.box 72 Thresholds_.rep u3 s1.2.2.2)],[(true,.box 346 (Rep.arr 6 (Rep.int .i64)) u5 d1)]] [0,1,2,3,4,5,6,7] Try_mixed rfl rfl rfl h21 (.cons ?_ (.cons ?_ (.cons ?_ (.cons ?_ (.cons ?_ (.cons ?_ .nil)))))) (λ q2 w hq2 h=>?_)
    ·intro q2 w Γx Ωx h
     refine OpS.mv rfl rfl rfl ?_
     exact du h
    ·intro q2 w Γx Ωx h
     refine OpS.ibox h .z PA.z Tryz.underlying346 ty3 (Nat.eq_of_beq_eq_true e12) rfl rfl rfl rfl e11 ?_
     exact du h
    ·intro q2 w Γx Ωx h
     refine OpS.loadBi h .z PA.a (Get.comp Get.id (Get.arr e11)) ty3 rfl rfl rfl ?_
     exact du h
    ·intro q2 w Γx Ωx h
     refine OpS.mv rfl rfl rfl ?_
     exact du h
    ·intro q2 w Γx Ωx h
     refine OpS.callP h Tryz.func223 rfl rfl rfl rfl (vs:=[.int .i64 s2]) rfl (ref04_Raw_ok e13) .nil ?_
     rintro _ w13 _ _ _ ⟨rfl,rfl,rfl,rfl⟩ h24
     have h25:=h24 rfl rfl
     simp only [ca,na] at h25
     exact ⟨undef,rfl,trivial,h25⟩
    ·intro q2 w Γx Ωx h
     refine OpS.fbox (o3:=1) h .z PA.z fa72_1 rfl rfl rfl rfl ?_
     exact du h
    have h26:=h
    obtain ⟨x4,e14,hF⟩:=bindP_use hF
    obtain ⟨e15,hF⟩:=chk_use hF
    refine op (OpS.ibox h26 .z PA.a Tryz.underlying70 ty5 (Nat.eq_of_beq_eq_true e15) rfl rfl rfl rfl e14 ?_)
    obtain ⟨d2,e16,hF⟩:=letP_use hF
    refine op (OpS.storeB (f':=true) h26 .z PA.a (Put.of (Put.comp (Get.fld Thresholds_.f1) (Put.arr e14) (Put.fld Thresholds_.f1)) e16) ty5 rfl rfl rfl V.int (.inl rfl) (λ w14 h27=>?_))
    refine nil (Run.reg (gm rfl (gm rfl ?_)))
    obtain ⟨y6,e17,hF⟩:=bindP_use hF
    have h28:=h27.front (.cons (.s (.s .z)) .nil)
    refine op (OpS.callO h28 Tryz.func54 rfl rfl rfl rfl (vs:=[v0,.int .i64 36]) rfl (made_Dice_Next_ok e17) rfl .nil ?_)
    rintro _ w15 _ _ _ ⟨rfl,rfl,rfl,rfl⟩ h29
    have h30:=h29
    simp only [ca,na] at h30
    refine gb rfl (ga rfl ?_)
    obtain ⟨x5,e18,hF⟩:=letP_use hF
    refine RunL.name e18 ?_
    refine nil (Run.endBlock (Run.reg (gm rfl (gb rfl (ga rfl ?_)))))
    obtain ⟨x6,e19,hF⟩:=letP_use hF
    refine RunL.name e19 ?_
    refine nil (Run.slim [(0,v0),(4,u1),(5,u3),(6,.int .i64 x5),(7,u5),(8,.int .i64 x6)] ⟨rfl,rfl,rfl,rfl,rfl,rfl,trivial⟩ ?_)
    exact hk1 (x5,x6,y6.2,d2) _ _ ⟨rfl,(h30.facts .nil).picks (.cons .z (.cons (.s (.s .z)) (.cons .z (.cons .z .nil))))⟩ hF
   refine Run.skip (Run.endBlock (Run.reg (gm rfl (gb rfl (ga rfl ?_)))))
   obtain ⟨x7,e20,hF⟩:=letP_use hF
   refine RunL.name e20 ?_
   refine nil (Run.slim [(0,v0),(4,u1),(5,u3),(6,.int .i64 s2),(7,u5),(8,.int .i64 x7)] ⟨rfl,rfl,rfl,rfl,rfl,rfl,trivial⟩ ?_)
   exact hk1 (s2,x7,s1.2.2.1,s1.2.2.2) _ _ ⟨rfl,(h21.facts .nil).picks (.cons (.s (.s .z)) (.cons (.s (.s .z)) (.cons .z (.cons .z .nil))))⟩ hF
  refine Run.ite rfl hF (λ e21 hF=>?_) (λ e21 hF=>?_)
  ·refine Run.reg (gm rfl (gb rfl (ga rfl ?_)))
   obtain ⟨x8,e22,hF⟩:=letP_use hF
   refine RunL.name e22 ?_
   refine nil (Run.slim [(0,v0),(4,u1),(5,u3),(6,.int .i64 x8),(7,u5),(8,.int .i64 s1.2.1)] ⟨rfl,rfl,rfl,rfl,rfl,rfl,trivial⟩ ?_)
   exact hj1 (x8) _ _ ⟨rfl,(h16.facts .nil).picks (.cons .z (.cons .z (.cons .z (.cons .z .nil))))⟩ hF
  refine Run.skip (Run.slim [(0,v0),(4,u1),(5,u3),(6,.int .i64 s1.1),(7,u5),(8,.int .i64 s1.2.1)] ⟨rfl,rfl,rfl,rfl,rfl,rfl,trivial⟩ ?_)
  exact hj1 (s1.1) _ _ ⟨rfl,(h16.facts .nil).picks (.cons .z (.cons .z (.cons .z (.cons .z .nil))))⟩ hF
 refine Run.exit rfl ?_
 refine sr (op (OpS.loadB h16 (.s (.s .z)) PA.z Get.id ty72 rfl rfl rfl (λ u6 h31=>?_)))
 refine op (OpS.storeB (f':=true) h31 (.s .z) PA.z Put.id ty72 rfl rfl rfl (V.at .z) (.inl rfl) (λ w16 h32=>?_))
 refine nil ?_
 obtain ⟨u7,hu1,h33⟩:=res_box h32 .z ty72
 refine Run.retP rfl (.cell rfl hu1 .nil) ?_
 cases hF
 exact Post.mk' ⟨u7,rfl,rfl,rfl,rfl⟩ (h33.picks (.cons (.s .z) .nil)) (.val (V.at .z) .nil)
set_option maxHeartbeats 8000000 in set_option maxRecDepth 20000 in
theorem made_Dice_Sensor_ok {fuel:Nat} {a0:made_Dice} {a1:Int} {y:Sensor_×made_Dice} (hF:made_Dice_Sensor fuel a0 a1=some y) {w:World} {v0:Value} :
  Spec Tryz.prog 102 [v0,.int .u8 a1].toArray w [] [(false,.box 163 made_Dice.rep v0 a0)] (λ v Γr Ωr Ωo=>∃ u0:Value,v=u0∧Γr=[(true,.val Sensor_.rep u0 y.1)]∧Ωr=[]∧Ωo=[(false,.box 163 made_Dice.rep v0 y.2)]):=by
 refine Spec.of (L:=[(0,v0),(1,.int .u8 a1)]) Tryz.func102 rfl ⟨rfl,rfl,trivial⟩ rfl (λ e h=>?_)
 unfold made_Dice_Sensor at hF
 refine sr (op (OpS.alloc h ti74 Sensor_.zr rfl rfl (λ u1 w1 h1=>?_)))
 refine nil (sr (gm rfl (gm rfl ?_)))
 obtain ⟨y1,e1,hF⟩:=bindP_use hF
 have h2:=h1.front (.cons (.s .z) .nil)
 refine op (OpS.callO h2 Tryz.func54 rfl rfl rfl rfl (vs:=[v0,.int .i64 4]) rfl (made_Dice_Next_ok e1) rfl .nil ?_)
 rintro _ w2 _ _ _ ⟨rfl,rfl,rfl,rfl⟩ h3
 have h4:=h3
 simp only [ca,na] at h4
 refine gb rfl (op (OpS.conv Tryz.underlying3 Tryz.underlying5 rfl rfl rfl ?_))
 refine gm rfl ?_
 obtain ⟨y2,e2,hF⟩:=bindP_use hF
 have h5:=h4.front (.cons .z .nil)
 refine op (OpS.callO h5 Tryz.func76 rfl rfl rfl rfl (vs:=[v0]) rfl (made_Dice_Byte_ok e2) rfl .nil ?_)
 rintro _ w3 _ _ _ ⟨rfl,rfl,rfl,rfl⟩ h6
 have h7:=h6
 simp only [ca,na] at h7
 refine gm rfl (gm rfl ?_)
 obtain ⟨y3,e3,hF⟩:=bindP_use hF
 have h8:=h7.front (.cons .z .nil)
 refine op (OpS.callO h8 Tryz.func54 rfl rfl rfl rfl (vs:=[v0,.int .i64 16]) rfl (made_Dice_Next_ok e3) rfl .nil ?_)
 rintro _ w4 _ _ _ ⟨rfl,rfl,rfl,rfl⟩ h9
 have h10:=h9
 simp only [ca,na] at h10
 refine gb rfl ?_
 obtain ⟨y4,e4,hF⟩:=bindP_use hF
 have h11:=h10.front (.cons .z .nil)
 refine op (OpS.callO h11 Tryz.func170 rfl rfl rfl rfl (vs:=[v0,(.string ⟨#[67,80,85,32,84,101,109,112,46,48,49,57]⟩),.int .i64 (IntKind.i64.wrap (1+y3.1))]) rfl (made_Dice_Text_ok e4) rfl (.cons (f:=true) (V.str (f:=true)) .nil) ?_)
 rintro u2 w5 _ _ _ ⟨_,rfl,rfl,rfl,rfl⟩ h12
 have h13:=h12
 simp only [ca,na] at h13
 refine gm rfl ?_
 obtain ⟨y5,e5,hF⟩:=bindP_use hF
 have h14:=h13.front (.cons .z .nil)
 refine op (OpS.callO h14 Tryz.func32 rfl rfl rfl rfl (vs:=[v0]) rfl (made_Dice_Entity_ok e5) rfl .nil ?_)
 rintro u3 w6 _ _ _ ⟨_,rfl,rfl,rfl,rfl⟩ h15
 have h16:=h15
 simp only [ca,na] at h16
 refine gm rfl ?_
 obtain ⟨y6,e6,hF⟩:=bindP_use hF
 have h17:=h16.front (.cons .z .nil)
 refine op (OpS.callO h17 Tryz.func31 rfl rfl rfl rfl (vs:=[v0,.int .i64 4]) rfl (made_Dice_Bool_ok e6) rfl .nil ?_)
 rintro _ w7 _ _ _ ⟨rfl,rfl,rfl,rfl⟩ h18
 have h19:=h18
 simp only [ca,na] at h19
 refine op (OpS.build (f:=true) (x':=(⟨a1,(IntKind.u8.wrap (IntKind.i64.wrap (1+y1.1))),y2.1,y4.1,y5.1,false,Conversion_.z,Thresholds_.z,0,0,0,0,0,y6.1,1⟩:Sensor_)) h19 pl74 ti74 Sensor_.zr rfl rfl rfl (.cons rfl Sensor_.f0 rfl V.int (.cons rfl Sensor_.f1 rfl V.int (.cons rfl Sensor_.f2 rfl V.int (.cons rfl Sensor_.f3 rfl (V.at (.s .z)) (.cons rfl Sensor_.f4 rfl (V.at .z) (.cons rfl Sensor_.f13 rfl V.bool (.cons rfl Sensor_.f14 rfl V.int .nil))))))) (λ u4 h20=>?_))
 refine op (OpS.alloc h20 ti74 Sensor_.zr rfl rfl (λ u5 w8 h21=>?_))
 refine op (OpS.storeB (f':=true) h21 .z PA.z Put.id ty74 rfl rfl rfl (V.at .z) (.inl rfl) (λ w9 h22=>?_))
 refine nil (Run.seq (sr (gm rfl ?_)))
 obtain ⟨y7,e7,hF⟩:=bindP_use hF
 have h23:=h22.front (.cons (.s .z) .nil)
 refine op (OpS.callO h23 Tryz.func31 rfl rfl rfl rfl (vs:=[v0,.int .i64 3]) rfl (made_Dice_Bool_ok e7) rfl .nil ?_)
 rintro _ w10 _ _ _ ⟨rfl,rfl,rfl,rfl⟩ h24
 have h25:=h24
 simp only [ca,na] at h25
 refine nil ?_
 refine Run.ite rfl hF (λ e8 hF=>?_) (λ e8 hF=>?_)
 ·refine sr (op (OpS.fbox (o3:=6) h25 (.s .z) PA.z fa74_5 rfl rfl rfl rfl ?_))
  refine op (OpS.storeB (f':=true) h25 (.s .z) PA.a (Put.fld Sensor_.f5) ty4 rfl rfl rfl V.bool (.inl rfl) (λ w11 h26=>?_))
  refine nil (sr (gm rfl ?_))
  obtain ⟨y8,e9,hF⟩:=bindP_use hF
  have h27:=h26.front (.cons (.s .z) .nil)
  refine op (OpS.callO h27 Tryz.func54 rfl rfl rfl rfl (vs:=[v0,.int .i64 32768]) rfl (made_Dice_Next_ok e9) rfl .nil ?_)
  rintro _ w12 _ _ _ ⟨rfl,rfl,rfl,rfl⟩ h28
  have h29:=h28
  simp only [ca,na] at h29
  refine op (OpS.conv Tryz.underlying3 Tryz.underlying49 rfl rfl rfl ?_)
  refine op (OpS.fbox (o3:=23) h29 (.s .z) PA.z fa74_10 rfl rfl rfl rfl ?_)
  refine op (OpS.storeB (f':=true) h29 (.s .z) PA.a (Put.fld Sensor_.f10) ty49 rfl rfl rfl V.int (.inl rfl) (λ w13 h30=>?_))
  refine nil (Run.seq ?_)
  obtain ⟨y9,e10,hF⟩:=bindP_use hF
  refine Run.drawV (Ωs:=[(true,.box 74 Sensor_.rep u1 Sensor_.z)]) [.kr 31 (padd u5 23) [0],.kr 32 (.int .u16 (IntKind.u16.wrap y8.1)) [0],.k 33 v0,⟨some 34,some (.int .i64 y9.1),λ _=>[],λ ds_ u_=>[(false,.box 163 made_Dice.rep v0 y9.2)],[1],[],none⟩,.k 35 (.int .u16 (IntKind.u16.wrap y9.1))] [[],[0],[],[2],[3]] [[(true,.box 74 Sensor_.rep u5 (⟨a1,(IntKind.u8.wrap (IntKind.i64.wrap (1+y1.1))),y2.1,y4.1,y5.1,true,Conversion_.z,Thresholds_.z,0,0,(IntKind.u16.wrap y8.1),0,0,y6.1,1⟩:Sensor_))],[(false,.box 163 made_Dice.rep v0 y8.2)]] [0,2,3,4,5,6] Try_mixed rfl rfl rfl h30 (.cons ?_ (.cons ?_ (.cons ?_ (.cons ?_ (.cons ?_ .nil))))) (λ q1 w hq1 h=>?_)
  ·intro q1 w Γx Ωx h
   refine OpS.fbox (o3:=23) h .z PA.z fa74_10 rfl rfl rfl rfl ?_
   exact du h
  ·intro q1 w Γx Ωx h
   refine OpS.loadBi h .z PA.a (Get.fld Sensor_.f10) ty49 rfl rfl rfl ?_
   exact du h
  ·intro q1 w Γx Ωx h
   refine OpS.mv rfl rfl rfl ?_
   exact du h
  ·intro q1 w Γx Ωx h
   have h34:=h.front (.cons .z .nil)
   refine OpS.callO h34 Tryz.func54 rfl rfl rfl rfl (vs:=[v0,.int .i64 4]) rfl (made_Dice_Next_ok e10) rfl .nil ?_
   rintro _ w15 _ _ _ ⟨rfl,rfl,rfl,rfl⟩ h35
   have h36:=h35
   simp only [ca,na] at h36
   exact ⟨undef,rfl,trivial,h36⟩
  ·intro q1 w Γx Ωx h
   refine OpS.conv Tryz.underlying3 Tryz.underlying49 rfl rfl rfl ?_
   exact du h
  have h37:=h
  refine gb rfl (op (OpS.fbox (o3:=24) h37 .z PA.z fa74_11 rfl rfl rfl rfl ?_))
  refine op (OpS.storeB (f':=true) h37 .z PA.a (Put.fld Sensor_.f11) ty49 rfl rfl rfl V.int (.inl rfl) (λ w16 h38=>?_))
  refine nil (Run.slim [(5,u5),(4,u1),(0,v0)] ⟨rfl,rfl,rfl,trivial⟩ ?_)
  refine Run.seq ?_
  obtain ⟨y10,e11,hF⟩:=bindP_use hF
  obtain ⟨y11,e12,hF⟩:=bindP_use hF
  refine Run.drawV (Ωs:=[(true,.box 74 Sensor_.rep u1 Sensor_.z)]) [.kr 38 (padd u5 23) [0],.kr 39 (.int .u16 (IntKind.u16.wrap y8.1)) [0],.k 40 v0,⟨some 41,some (.int .i64 y10.1),λ _=>[],λ ds_ u_=>[(false,.box 163 made_Dice.rep v0 y10.2)],[1],[],none⟩,.k 42 v0,⟨some 43,some (.int .i64 y11.1),λ _=>[],λ ds_ u_=>[(false,.box 163 made_Dice.rep v0 y11.2)],[5],[],none⟩,.k 44 (.int .i64 (IntKind.i64.wrap (y10.1*y11.1))),.k 45 (.int .u16 (IntKind.u16.wrap (IntKind.i64.wrap (y10.1*y11.1))))] [[],[0],[],[2],[],[4],[3,5],[6]] [[(true,.box 74 Sensor_.rep u5 (⟨a1,(IntKind.u8.wrap (IntKind.i64.wrap (1+y1.1))),y2.1,y4.1,y5.1,true,Conversion_.z,Thresholds_.z,0,0,(IntKind.u16.wrap y8.1),(bAndNot .u16 (IntKind.u16.wrap y8.1) (IntKind.u16.wrap y9.1)),0,y6.1,1⟩:Sensor_))],[(false,.box 163 made_Dice.rep v0 y9.2)]] [0,2,3,4,6,7,8,9] Try_mixed rfl rfl rfl h38 (.cons ?_ (.cons ?_ (.cons ?_ (.cons ?_ (.cons ?_ (.cons ?_ (.cons ?_ (.cons ?_ .nil)))))))) (λ q2 w hq2 h=>?_)
  ·intro q2 w Γx Ωx h
   refine OpS.fbox (o3:=23) h .z PA.z fa74_10 rfl rfl rfl rfl ?_
   exact du h
  ·intro q2 w Γx Ωx h
   refine OpS.loadBi h .z PA.a (Get.fld Sensor_.f10) ty49 rfl rfl rfl ?_
   exact du h
  ·intro q2 w Γx Ωx h
   refine OpS.mv rfl rfl rfl ?_
   exact du h
  ·intro q2 w Γx Ωx h
   have h45:=h.front (.cons .z .nil)
   refine OpS.callO h45 Tryz.func54 rfl rfl rfl rfl (vs:=[v0,.int .i64 4]) rfl (made_Dice_Next_ok e11) rfl .nil ?_
   rintro _ w19 _ _ _ ⟨rfl,rfl,rfl,rfl⟩ h46
   have h47:=h46
   simp only [ca,na] at h47
   exact ⟨undef,rfl,trivial,h47⟩
  ·intro q2 w Γx Ωx h
   refine OpS.mv rfl rfl rfl ?_
   exact du h
  ·intro q2 w Γx Ωx h
   have h48:=h.front (.cons .z .nil)
   refine OpS.callO h48 Tryz.func54 rfl rfl rfl rfl (vs:=[v0,.int .i64 300]) rfl (made_Dice_Next_ok e12) rfl .nil ?_
   rintro _ w20 _ _ _ ⟨rfl,rfl,rfl,rfl⟩ h49
   have h50:=h49
   simp only [ca,na] at h50
   exact ⟨undef,rfl,trivial,h50⟩
  ·intro q2 w Γx Ωx h
   refine OpS.bin rfl rfl rfl rfl rfl ?_
   exact du h
  ·intro q2 w Γx Ωx h
   refine OpS.conv Tryz.underlying3 Tryz.underlying49 rfl rfl rfl ?_
   exact du h
  have h51:=h
  refine gb rfl (op (OpS.fbox (o3:=25) h51 .z PA.z fa74_12 rfl rfl rfl rfl ?_))
  refine op (OpS.storeB (f':=true) h51 .z PA.a (Put.fld Sensor_.f12) ty49 rfl rfl rfl V.int (.inl rfl) (λ w21 h52=>?_))
  refine nil (sr (op (OpS.loadB h52 .z PA.z Get.id ty74 rfl rfl rfl (λ u6 h53=>?_))))
  refine op (OpS.storeB (f':=true) h53 (.s (.s .z)) PA.z Put.id ty74 rfl rfl rfl (V.at .z) (.inl rfl) (λ w22 h54=>?_))
  refine nil ?_
  obtain ⟨u7,hu1,h55⟩:=res_box h54 .z ty74
  refine Run.retP rfl (.cell rfl hu1 .nil) ?_
  cases hF
  exact Post.mk' ⟨u7,rfl,rfl,rfl,rfl⟩ (h55.picks (.cons (.s (.s .z)) .nil)) (.val (V.at .z) .nil)
 refine Run.skip (sr (gm rfl ?_))
 obtain ⟨y12,e13,hF⟩:=bindP_use hF
 have h56:=h25.front (.cons .z .nil)
 refine op (OpS.callO h56 Tryz.func54 rfl rfl rfl rfl (vs:=[v0,.int .i64 3]) rfl (made_Dice_Next_ok e13) rfl .nil ?_)
 rintro _ w23 _ _ _ ⟨rfl,rfl,rfl,rfl⟩ h57
 have h58:=h57
 simp only [ca,na] at h58
 refine gb rfl (gb rfl (op (OpS.fbox (o3:=27) h58 (.s .z) PA.z fa74_14 rfl rfl rfl rfl ?_)))
 refine op (OpS.storeB (f':=true) h58 (.s .z) PA.a (Put.fld Sensor_.f14) ty3 rfl rfl rfl V.int (.inl rfl) (λ w24 h59=>?_))
 refine nil (sr (gm rfl ?_))
 obtain ⟨y13,e14,hF⟩:=bindP_use hF
 have h60:=h59.front (.cons (.s .z) .nil)
 refine op (OpS.callO h60 Tryz.func171 rfl rfl rfl rfl (vs:=[v0]) rfl (made_Dice_Conversion_ok e14) rfl .nil ?_)
 rintro u8 w25 _ _ _ ⟨_,rfl,rfl,rfl,rfl⟩ h61
 have h62:=h61
 simp only [ca,na] at h62
 refine op (OpS.fbox (o3:=7) h62 (.s .z) PA.z fa74_6 rfl rfl rfl rfl ?_)
 refine op (OpS.storeB (f':=true) h62 (.s .z) PA.a (Put.fld Sensor_.f6) ty69 rfl rfl rfl (V.at .z) (.inl rfl) (λ w26 h63=>?_))
 refine nil (sr (gm rfl (op (OpS.fbox (o3:=7) h63 .z PA.z fa74_6 rfl rfl rfl rfl ?_))))
 refine op (OpS.fbox (o3:=8) h63 .z PA.a fa69_1 rfl rfl rfl rfl ?_)
 refine op (OpS.loadBb h63 .z PA.a (Get.comp (Get.fld Sensor_.f6) (Get.fld Conversion_.f1)) ty4 rfl rfl rfl ?_)
 obtain ⟨y14,e15,hF⟩:=bindP_use hF
 have h64:=h63.front (.cons (.s .z) .nil)
 refine op (OpS.callO h64 Tryz.func172 rfl rfl rfl rfl (vs:=[v0,.bool y13.1.Signed]) rfl (made_Dice_thresholds_ok e15) rfl .nil ?_)
 rintro u9 w27 _ _ _ ⟨_,rfl,rfl,rfl,rfl⟩ h65
 have h66:=h65
 simp only [ca,na] at h66
 refine op (OpS.fbox (o3:=14) h66 (.s .z) PA.z fa74_7 rfl rfl rfl rfl ?_)
 refine op (OpS.storeB (f':=true) h66 (.s .z) PA.a (Put.fld Sensor_.f7) ty72 rfl rfl rfl (V.at .z) (.inl rfl) (λ w28 h67=>?_))
 refine nil (Run.slim [(5,u5),(4,u1),(0,v0)] ⟨rfl,rfl,rfl,trivial⟩ ?_)
 refine sr (gm rfl ?_)
 obtain ⟨y15,e16,hF⟩:=bindP_use hF
 have h68:=h67.front (.cons (.s .z) .nil)
 refine op (OpS.callO h68 Tryz.func54 rfl rfl rfl rfl (vs:=[v0,.int .i64 5]) rfl (made_Dice_Next_ok e16) rfl .nil ?_)
 rintro _ w29 _ _ _ ⟨rfl,rfl,rfl,rfl⟩ h69
 have h70:=h69
 simp only [ca,na] at h70
 refine op (OpS.conv Tryz.underlying3 Tryz.underlying5 rfl rfl rfl ?_)
 refine op (OpS.fbox (o3:=21) h70 (.s .z) PA.z fa74_8 rfl rfl rfl rfl ?_)
 refine op (OpS.storeB (f':=true) h70 (.s .z) PA.a (Put.fld Sensor_.f8) ty5 rfl rfl rfl V.int (.inl rfl) (λ w30 h71=>?_))
 refine nil (sr (gm rfl ?_))
 obtain ⟨y16,e17,hF⟩:=bindP_use hF
 have h72:=h71.front (.cons (.s .z) .nil)
 refine op (OpS.callO h72 Tryz.func54 rfl rfl rfl rfl (vs:=[v0,.int .i64 5]) rfl (made_Dice_Next_ok e17) rfl .nil ?_)
 rintro _ w31 _ _ _ ⟨rfl,rfl,rfl,rfl⟩ h73
 have h74:=h73
 simp only [ca,na] at h74
 refine op (OpS.conv Tryz.underlying3 Tryz.underlying5 rfl rfl rfl ?_)
 refine op (OpS.fbox (o3:=22) h74 (.s .z) PA.z fa74_9 rfl rfl rfl rfl ?_)
 refine op (OpS.storeB (f':=true) h74 (.s .z) PA.a (Put.fld Sensor_.f9) ty5 rfl rfl rfl V.int (.inl rfl) (λ w32 h75=>?_))
 refine nil (Run.seq (sr (gm rfl ?_)))
 obtain ⟨y17,e18,hF⟩:=bindP_use hF
 have h76:=h75.front (.cons (.s .z) .nil)
 refine op (OpS.callO h76 Tryz.func31 rfl rfl rfl rfl (vs:=[v0,.int .i64 12]) rfl (made_Dice_Bool_ok e18) rfl .nil ?_)
 rintro _ w33 _ _ _ ⟨rfl,rfl,rfl,rfl⟩ h77
 have h78:=h77
 simp only [ca,na] at h78
 refine nil ?_
 refine Run.join (σ:=(made_Dice×Sensor_)) (λ s_ L_ w_=>L_=[(0,v0),(4,u1),(5,u5)]∧St e w_ [] [(false,.box 163 made_Dice.rep v0 s_.1),(true,.box 74 Sensor_.rep u1 Sensor_.z),(true,.box 74 Sensor_.rep u5 s_.2)]) hF (λ s1 _ w34 hI hF=>?_) (λ j1 hj1 hF=>?_)
 ·obtain ⟨rfl,h79⟩:=hI
  refine sr (op (OpS.fbox (o3:=14) h79 (.s (.s .z)) PA.z fa74_7 rfl rfl rfl rfl ?_))
  refine op (OpS.fbox (o3:=14) h79 (.s (.s .z)) PA.a fa72_0 rfl rfl rfl rfl ?_)
  refine op (OpS.loadBi h79 (.s (.s .z)) PA.a (Get.comp (Get.fld Sensor_.f7) (Get.fld Thresholds_.f0)) ty5 rfl rfl rfl ?_)
  refine op (OpS.conv Tryz.underlying5 Tryz.underlying49 rfl rfl rfl ?_)
  refine ga rfl ?_
  obtain ⟨x1,e19,hF⟩:=letP_use hF
  refine RunL.name e19 ?_
  refine nil (sr (gm rfl (op (OpS.fbox (o3:=24) h79 (.s (.s .z)) PA.z fa74_11 rfl rfl rfl rfl ?_))))
  obtain ⟨d1,e20,hF⟩:=letP_use hF
  refine op (OpS.storeB (f':=true) h79 (.s (.s .z)) PA.a (Put.of (Put.fld Sensor_.f11) e20) ty49 rfl rfl rfl V.int (.inl rfl) (λ w35 h80=>?_))
  refine nil (sr (gm rfl (op (OpS.fbox (o3:=25) h80 .z PA.z fa74_12 rfl rfl rfl rfl ?_))))
  obtain ⟨d2,e21,hF⟩:=letP_use hF
  refine op (OpS.storeB (f':=true) h80 .z PA.a (Put.of (Put.fld Sensor_.f12) e21) ty49 rfl rfl rfl V.int (.inl rfl) (λ w36 h81=>?_))
  refine nil (Run.seq (sr (gm rfl ?_)))
  obtain ⟨y18,e22,hF⟩:=bindP_use hF
  have h82:=h81.front (.cons (.s .z) .nil)
  refine op (OpS.callO h82 Tryz.func31 rfl rfl rfl rfl (vs:=[v0,.int .i64 3]) rfl (made_Dice_Bool_ok e22) rfl .nil ?_)
  rintro _ w37 _ _ _ ⟨rfl,rfl,rfl,rfl⟩ h83
  have h84:=h83
  simp only [ca,na] at h84
  refine nil ?_
  refine Run.ite rfl hF (λ e23 hF=>?_) (λ e23 hF=>?_)
  ·refine sr (gm rfl (gm rfl ?_))
   obtain ⟨y19,e24,hF⟩:=bindP_use hF
   have h85:=h84.front (.cons .z .nil)
   refine op (OpS.callO h85 Tryz.func54 rfl rfl rfl rfl (vs:=[v0,.int .i64 64]) rfl (made_Dice_Next_ok e24) rfl .nil ?_)
   rintro _ w38 _ _ _ ⟨rfl,rfl,rfl,rfl⟩ h86
   have h87:=h86
   simp only [ca,na] at h87
   refine op (OpS.conv Tryz.underlying3 Tryz.underlying49 rfl rfl rfl ?_)
   refine gb rfl (op (OpS.fbox (o3:=24) h87 (.s .z) PA.z fa74_11 rfl rfl rfl rfl ?_))
   obtain ⟨d3,e25,hF⟩:=letP_use hF
   refine op (OpS.storeB (f':=true) h87 (.s .z) PA.a (Put.of (Put.fld Sensor_.f11) e25) ty49 rfl rfl rfl V.int (.inl rfl) (λ w39 h88=>?_))
   refine nil (Run.reg (gm rfl (gm rfl ?_)))
   obtain ⟨y20,e26,hF⟩:=bindP_use hF
   have h89:=h88.front (.cons (.s .z) .nil)
   refine op (OpS.callO h89 Tryz.func54 rfl rfl rfl rfl (vs:=[v0,.int .i64 64]) rfl (made_Dice_Next_ok e26) rfl .nil ?_)
   rintro _ w40 _ _ _ ⟨rfl,rfl,rfl,rfl⟩ h90
   have h91:=h90
   simp only [ca,na] at h91
   refine op (OpS.conv Tryz.underlying3 Tryz.underlying49 rfl rfl rfl ?_)
   refine gb rfl (op (OpS.fbox (o3:=25) h91 (.s .z) PA.z fa74_12 rfl rfl rfl rfl ?_))
   obtain ⟨d4,e27,hF⟩:=letP_use hF
   refine op (OpS.storeB (f':=true) h91 (.s .z) PA.a (Put.of (Put.fld Sensor_.f12) e27) ty49 rfl rfl rfl V.int (.inl rfl) (λ w41 h92=>?_))
   refine nil (sr (op (OpS.loadB h92 .z PA.z Get.id ty74 rfl rfl rfl (λ u10 h93=>?_))))
   refine op (OpS.storeB (f':=true) h93 (.s (.s .z)) PA.z Put.id ty74 rfl rfl rfl (V.at .z) (.inl rfl) (λ w42 h94=>?_))
   refine nil ?_
   obtain ⟨u11,hu2,h95⟩:=res_box h94 .z ty74
   refine Run.retP rfl (.cell rfl hu2 .nil) ?_
   cases hF
   exact Post.mk' ⟨u11,rfl,rfl,rfl,rfl⟩ (h95.picks (.cons (.s (.s .z)) .nil)) (.val (V.at .z) .nil)
  refine Run.skip (sr (op (OpS.loadB h84 (.s .z) PA.z Get.id ty74 rfl rfl rfl (λ u12 h96=>?_))))
  refine op (OpS.storeB (f':=true) h96 (.s (.s .z)) PA.z Put.id ty74 rfl rfl rfl (V.at .z) (.inl rfl) (λ w43 h97=>?_))
  refine nil ?_
  obtain ⟨u13,hu3,h98⟩:=res_box h97 .z ty74
  refine Run.retP rfl (.cell rfl hu3 .nil) ?_
  cases hF
  exact Post.mk' ⟨u13,rfl,rfl,rfl,rfl⟩ (h98.picks (.cons (.s .z) .nil)) (.val (V.at .z) .nil)
 refine Run.ite rfl hF (λ e28 hF=>?_) (λ e28 hF=>?_)
 ·refine Run.reg (gm rfl ?_)
  obtain ⟨y21,e29,hF⟩:=bindP_use hF
  have h99:=h78.front (.cons .z .nil)
  refine op (OpS.callO h99 Tryz.func76 rfl rfl rfl rfl (vs:=[v0]) rfl (made_Dice_Byte_ok e29) rfl .nil ?_)
  rintro _ w44 _ _ _ ⟨rfl,rfl,rfl,rfl⟩ h100
  have h101:=h100
  simp only [ca,na] at h101
  refine op (OpS.fbox (o3:=22) h101 (.s .z) PA.z fa74_9 rfl rfl rfl rfl ?_)
  refine op (OpS.storeB (f':=true) h101 (.s .z) PA.a (Put.fld Sensor_.f9) ty5 rfl rfl rfl V.int (.inl rfl) (λ w45 h102=>?_))
  refine nil (Run.slim [(0,v0),(4,u1),(5,u5)] ⟨rfl,rfl,rfl,trivial⟩ ?_)
  exact hj1 (y21.2,(⟨a1,(IntKind.u8.wrap (IntKind.i64.wrap (1+y1.1))),y2.1,y4.1,y5.1,false,y13.1,y14.1,(IntKind.u8.wrap y15.1),y21.1,0,0,0,y6.1,(IntKind.i64.wrap (1+(IntKind.i64.wrap (2*y12.1))))⟩:Sensor_)) _ _ ⟨rfl,(h102.facts .nil).picks (.cons (.s .z) (.cons (.s .z) (.cons .z .nil)))⟩ hF
 refine Run.skip (Run.slim [(0,v0),(4,u1),(5,u5)] ⟨rfl,rfl,rfl,trivial⟩ ?_)
 exact hj1 (y17.2,(⟨a1,(IntKind.u8.wrap (IntKind.i64.wrap (1+y1.1))),y2.1,y4.1,y5.1,false,y13.1,y14.1,(IntKind.u8.wrap y15.1),(IntKind.u8.wrap y16.1),0,0,0,y6.1,(IntKind.i64.wrap (1+(IntKind.i64.wrap (2*y12.1))))⟩:Sensor_)) _ _ ⟨rfl,(h78.facts .nil).picks (.cons .z (.cons (.s .z) (.cons .z .nil)))⟩ hF
theorem made_Dice_Sensors_ok {fuel:Nat} {a0:made_Dice} {a1:Int} {y:(List Sensor_)×made_Dice} (hF:made_Dice_Sensors fuel a0 a1=some y) {w:World} {v0:Value} :
  Spec Tryz.prog 40 [v0,.int .i64 a1].toArray w [] [(false,.box 163 made_Dice.rep v0 a0)] (λ v Γr Ωr Ωo=>∃ u0:Value,v=u0∧Γr=[]∧Ωr=[(true,(.slice 74 Sensor_.rep u0 y.1))]∧Ωo=[(false,.box 163 made_Dice.rep v0 y.2)]):=by
 refine Spec.of (L:=[(0,v0),(1,.int .i64 a1)]) Tryz.func40 rfl ⟨rfl,rfl,trivial⟩ rfl (λ e h=>?_)
 unfold made_Dice_Sensors at hF
 refine sr (ga rfl (nil (sr (ga rfl (nil (sr (gm rfl ?_)))))))
 obtain ⟨y1,e1,hF⟩:=bindP_use hF
 have h1:=h.front (.cons .z .nil)
 refine op (OpS.callO h1 Tryz.func54 rfl rfl rfl rfl (vs:=[v0,.int .i64 20]) rfl (made_Dice_Next_ok e1) rfl .nil ?_)
 rintro _ w1 _ _ _ ⟨rfl,rfl,rfl,rfl⟩ h2
 have h3:=h2
 simp only [ca,na] at h3
 refine ga rfl (nil (Run.seq (sr (gm rfl (gm rfl (gb rfl ?_))))))
 obtain ⟨y2,e2,hF⟩:=bindP_use hF
 have h4:=h3.front (.cons .z .nil)
 refine op (OpS.callO h4 Tryz.func54 rfl rfl rfl rfl (vs:=[v0,.int .i64 (IntKind.i64.wrap (a1+1))]) rfl (made_Dice_Next_ok e2) rfl .nil ?_)
 rintro _ w2 _ _ _ ⟨rfl,rfl,rfl,rfl⟩ h5
 have h6:=h5
 simp only [ca,na] at h6
 refine ga rfl (nil (Run.block ?_))
 have h7:=St.nil 74 Sensor_.rep h6
 refine Run.slim [(0,v0),(5,(.slice none 0 0)),(6,.int .i64 y1.1),(7,.int .i64 y2.1)] ⟨rfl,rfl,rfl,rfl,trivial⟩ ?_
 refine Run.loopP (σ:=(Int×Int×made_Dice×(List Sensor_))) (λ s_ L_ w_=>∃ u0_:Value,L_=[(0,v0),(5,u0_),(6,.int .i64 s_.1),(7,.int .i64 s_.2.1)]∧St e w_ [] [(false,.box 163 made_Dice.rep v0 s_.2.2.1),(true,.slice 74 Sensor_.rep u0_ s_.2.2.2)]) hF ⟨(.slice none 0 0),rfl,(h7.facts .nil).picks (.cons (.s .z) (.cons .z .nil))⟩ (λ k1 hk1 s1 _ w3 hI hF=>?_)
 obtain ⟨u1,rfl,h8⟩:=hI
 refine Run.seq (sr (gm rfl (gb rfl (nil ?_))))
 refine Run.ite rfl hF (λ e3 hF=>?_) (λ e3 hF=>?_)
 ·refine Run.skip (Run.seq (Run.block (sr (gm rfl (gm rfl (gm rfl (op (OpS.conv Tryz.underlying3 Tryz.underlying5 rfl rfl rfl ?_))))))))
  obtain ⟨y3,e4,hF⟩:=bindP_use hF
  have h9:=h8.front (.cons .z .nil)
  refine op (OpS.callO h9 Tryz.func102 rfl rfl rfl rfl (vs:=[v0,.int .u8 (IntKind.u8.wrap s1.1)]) rfl (made_Dice_Sensor_ok e4) rfl .nil ?_)
  rintro u2 w4 _ _ _ ⟨_,rfl,rfl,rfl,rfl⟩ h10
  have h11:=h10
  simp only [ca,na] at h11
  refine op (OpS.lit (r:=Sensor_.rep) (f:=true) h11 Tryz.underlying27 ti74 rfl rfl rfl rfl rfl (.cons rfl (V.at .z) .nil) rfl rfl (λ u3 w5 h12=>?_))
  obtain ⟨x1,e5,hF⟩:=bindP_use hF
  refine op (OpS.app (f':=true) h12 (.s .z) Tryz.underlying27 ti74 rfl rfl rfl rfl rfl rfl rfl (V.at .z) (.inl (.inl rfl)) e5 (λ u4 w6 h13=>?_))
  refine ga rfl (nil (Run.reg (gm rfl (gm rfl ?_))))
  obtain ⟨y4,e6,hF⟩:=bindP_use hF
  have h14:=h13.front (.cons (.s .z) .nil)
  refine op (OpS.callO h14 Tryz.func54 rfl rfl rfl rfl (vs:=[v0,.int .i64 5]) rfl (made_Dice_Next_ok e6) rfl .nil ?_)
  rintro _ w7 _ _ _ ⟨rfl,rfl,rfl,rfl⟩ h15
  have h16:=h15
  simp only [ca,na] at h16
  refine gb rfl (gb rfl (ga rfl ?_))
  obtain ⟨x2,e7,hF⟩:=letP_use hF
  refine RunL.name e7 ?_
  refine nil (Run.endBlock (Run.reg (gm rfl (gb rfl (ga rfl ?_)))))
  obtain ⟨x3,e8,hF⟩:=letP_use hF
  refine RunL.name e8 ?_
  refine nil (Run.slim [(0,v0),(5,u4),(6,.int .i64 x2),(7,.int .i64 x3)] ⟨rfl,rfl,rfl,rfl,trivial⟩ ?_)
  exact hk1 (x2,x3,y4.2,x1) _ _ ⟨u4,rfl,(h16.facts .nil).picks (.cons .z (.cons .z .nil))⟩ hF
 refine Run.exit rfl ?_
 refine sr (gm rfl (ga rfl (nil (Run.retP rfl (.tmp rfl .nil) ?_))))
 cases hF
 exact Post.mk' ⟨u1,rfl,rfl,rfl,rfl⟩ (h8.picks (.cons (.s .z) (.cons .z .nil))) .nil
theorem top_watched_ok {fuel:Nat} {a0:made_Dice} {a1:Int} {y:(List Sensor_)×made_Dice} (hF:top_watched fuel a0 a1=some y) {w:World} {v0:Value} :
  Spec Tryz.prog 11 [v0,.int .i64 a1].toArray w [] [(false,.box 163 made_Dice.rep v0 a0)] (λ v Γr Ωr Ωo=>∃ u0:Value,v=u0∧Γr=[]∧Ωr=[(true,(.slice 74 Sensor_.rep u0 y.1))]∧Ωo=[(false,.box 163 made_Dice.rep v0 y.2)]):=by
 refine Spec.of (L:=[(0,v0),(1,.int .i64 a1)]) Tryz.func11 rfl ⟨rfl,rfl,trivial⟩ rfl (λ e h=>?_)
 unfold top_watched at hF
 refine sr (ga rfl (nil (sr (gm rfl (gm rfl ?_)))))
 obtain ⟨y1,e1,hF⟩:=bindP_use hF
 have h1:=h.front (.cons .z .nil)
 refine op (OpS.callO h1 Tryz.func40 rfl rfl rfl rfl (vs:=[v0,.int .i64 a1]) rfl (made_Dice_Sensors_ok e1) rfl .nil ?_)
 rintro u1 w1 _ _ _ ⟨_,rfl,rfl,rfl,rfl⟩ h2
 have h3:=h2
 simp only [ca,na] at h3
 refine ga rfl (nil (Run.seq (sr (ga rfl (nil (Run.block (Run.slim [(5,u1),(6,.int .i64 0)] ⟨rfl,rfl,trivial⟩ ?_)))))))
 refine Run.loopP (σ:=(Int×(List Sensor_))) (λ s_ L_ w_=>L_=[(5,u1),(6,.int .i64 s_.1)]∧St e w_ [] [(false,.box 163 made_Dice.rep v0 y1.2),(true,.slice 74 Sensor_.rep u1 s_.2)]) hF ⟨rfl,(h3.facts .nil).picks (.cons (.s .z) (.cons .z .nil))⟩ (λ k1 hk1 s1 _ w2 hI hF=>?_)
 obtain ⟨rfl,h4⟩:=hI
 refine Run.seq (sr (gm rfl (gm rfl (op (OpS.lenO h4 (.s .z) Tryz.underlying27 rfl rfl rfl ?_)))))
 refine gb rfl (nil ?_)
 refine Run.ite rfl hF (λ e2 hF=>?_) (λ e2 hF=>?_)
 ·refine Run.skip (Run.seq (Run.block (sr (gm rfl (gm rfl ?_)))))
  obtain ⟨x1,e3,hF⟩:=bindP_use hF
  refine op (OpS.iown h4 (.s .z) Tryz.underlying27 ty74 rfl rfl rfl rfl e3 ?_)
  refine op (OpS.fown h4 (.s .z) (idx_ne e3) PA.a fa74_10 rfl rfl rfl ?_)
  refine op (OpS.loadOi h4 (.s .z) (idx_ne e3) PA.a (Get.comp (Get.arr e3) (Get.fld Sensor_.f10)) ty49 rfl rfl rfl ?_)
  refine ga rfl (nil (Run.seq (sr (gm rfl (gm rfl ?_)))))
  obtain ⟨x2,e4,hF⟩:=bindP_use hF
  refine op (OpS.iown h4 (.s .z) Tryz.underlying27 ty74 rfl rfl rfl rfl e4 ?_)
  refine op (OpS.fown h4 (.s .z) (idx_ne e4) PA.a fa74_5 rfl rfl rfl ?_)
  refine op (OpS.loadOb h4 (.s .z) (idx_ne e4) PA.a (Get.comp (Get.arr e4) (Get.fld Sensor_.f5)) ty4 rfl rfl rfl ?_)
  refine op (OpS.not rfl rfl rfl ?_)
  refine nil ?_
  refine Run.join (σ:=Int) (λ s_ L_ w_=>L_=[(5,u1),(6,.int .i64 s1.1),(7,.int .u16 s_)]∧St e w_ [] [(false,.box 163 made_Dice.rep v0 y1.2),(true,.slice 74 Sensor_.rep u1 s1.2)]) hF (λ s2 _ w3 hI hF=>?_) (λ j1 hj1 hF=>?_)
  ·obtain ⟨rfl,h5⟩:=hI
   refine Run.reg (gm rfl (gm rfl (gm rfl (gm rfl (gm rfl (gm rfl (gm rfl (gm rfl ?_))))))))
   obtain ⟨x3,e5,hF⟩:=bindP_use hF
   refine op (OpS.iown h5 (.s .z) Tryz.underlying27 ty74 rfl rfl rfl rfl e5 ?_)
   refine op (OpS.fown h5 (.s .z) (idx_ne e5) PA.a fa74_11 rfl rfl rfl ?_)
   obtain ⟨d1,e6,hF⟩:=letP_use hF
   refine op (OpS.storeO (f':=true) h5 (.s .z) (idx_ne e5) PA.a (Put.of (Put.comp (Get.arr e5) (Put.fld Sensor_.f11) (Put.arr e5)) e6) ty49 rfl rfl rfl V.int (.inl rfl) (λ w4 h6=>?_))
   obtain ⟨x4,e7,hF⟩:=bindP_use hF
   refine op (OpS.iown h6 .z Tryz.underlying27 ty74 rfl rfl rfl rfl e7 ?_)
   refine op (OpS.fown h6 .z (idx_ne e7) PA.a fa74_12 rfl rfl rfl ?_)
   obtain ⟨d2,e8,hF⟩:=letP_use hF
   refine op (OpS.storeO (f':=true) h6 .z (idx_ne e7) PA.a (Put.of (Put.comp (Get.arr e7) (Put.fld Sensor_.f12) (Put.arr e7)) e8) ty49 rfl rfl rfl V.int (.inl rfl) (λ w5 h7=>?_))
   obtain ⟨x5,e9,hF⟩:=bindP_use hF
   refine op (OpS.iown h7 .z Tryz.underlying27 ty74 rfl rfl rfl rfl e9 ?_)
   refine op (OpS.fown h7 .z (idx_ne e9) PA.a fa74_14 rfl rfl rfl ?_)
   obtain ⟨d3,e10,hF⟩:=letP_use hF
   refine op (OpS.storeO (f':=true) h7 .z (idx_ne e9) PA.a (Put.of (Put.comp (Get.arr e9) (Put.fld Sensor_.f14) (Put.arr e9)) e10) ty3 rfl rfl rfl V.int (.inl rfl) (λ w6 h8=>?_))
   refine nil (Run.endBlock (Run.reg (gm rfl (gb rfl (ga rfl ?_)))))
   obtain ⟨x6,e11,hF⟩:=letP_use hF
   refine RunL.name e11 ?_
   refine nil (Run.slim [(5,u1),(6,.int .i64 x6)] ⟨rfl,rfl,trivial⟩ ?_)
   exact hk1 (x6,d3) _ _ ⟨rfl,(h8.facts .nil).picks (.cons (.s .z) (.cons .z .nil))⟩ hF
  refine Run.ite rfl hF (λ e12 hF=>?_) (λ e12 hF=>?_)
  ·refine Run.reg (gm rfl (gm rfl ?_))
   obtain ⟨x7,e13,hF⟩:=bindP_use hF
   refine op (OpS.iown h4 (.s .z) Tryz.underlying27 ty74 rfl rfl rfl rfl e13 ?_)
   refine op (OpS.fown h4 (.s .z) (idx_ne e13) PA.a fa74_7 rfl rfl rfl ?_)
   refine op (OpS.fown h4 (.s .z) (idx_ne e13) PA.a fa72_0 rfl rfl rfl ?_)
   refine op (OpS.loadOi h4 (.s .z) (idx_ne e13) PA.a (Get.comp (Get.comp (Get.arr e13) (Get.fld Sensor_.f7)) (Get.fld Thresholds_.f0)) ty5 rfl rfl rfl ?_)
   refine op (OpS.conv Tryz.underlying5 Tryz.underlying49 rfl rfl rfl ?_)
   refine ga rfl ?_
   obtain ⟨x8,e14,hF⟩:=letP_use hF
   refine RunL.name e14 ?_
   refine nil (Run.slim [(5,u1),(6,.int .i64 s1.1),(7,.int .u16 x8)] ⟨rfl,rfl,rfl,trivial⟩ ?_)
   exact hj1 (x8) _ _ ⟨rfl,(h4.facts .nil).picks (.cons .z (.cons .z .nil))⟩ hF
  refine Run.skip (Run.slim [(5,u1),(6,.int .i64 s1.1),(7,.int .u16 x1.States)] ⟨rfl,rfl,rfl,trivial⟩ ?_)
  exact hj1 (x1.States) _ _ ⟨rfl,(h4.facts .nil).picks (.cons .z (.cons .z .nil))⟩ hF
 refine Run.exit rfl ?_
 refine sr (gm rfl (ga rfl (nil (Run.retP rfl (.tmp rfl .nil) ?_))))
 cases hF
 exact Post.mk' ⟨u1,rfl,rfl,rfl,rfl⟩ (h4.picks (.cons (.s .z) (.cons .z .nil))) .nil
set_option maxRecDepth 20000 in
theorem ref15_Parent_ok {fuel:Nat} {a0:List Association_} {a1:Entity_} {y:Entity_×Bool} (hF:ref15_Parent fuel a0 a1=some y) {w:World} {v0 v1:Value} :
  Spec Tryz.prog 159 [v0,v1].toArray w [(false,.val (Rep.slice Association_.rep) v0 a0),(false,.val Entity_.rep v1 a1)] [] (λ v Γr Ωr Ωo=>∃ u0:Value,v=.tuple #[u0,.bool y.2]∧Γr=[(false,.val Entity_.rep u0 y.1)]∧Ωr=[]∧Ωo=[]):=by
 refine Spec.of (L:=[(0,v0),(1,v1)]) Tryz.func159 rfl ⟨rfl,rfl,trivial⟩ rfl (λ e h=>?_)
 unfold ref15_Parent at hF
 refine sr (op (OpS.boxF h rfl rfl rfl (V.at (.s .z)) (λ u1 w1 h1=>?_)))
 refine op (OpS.alloc h1 ti66 Entity_.zr rfl rfl (λ u2 w2 h2=>?_))
 refine ga rfl (nil (Run.seq (sr (ga rfl (nil (Run.block (Run.slim [(0,v0),(3,u1),(4,u2),(6,.int .i64 0)] ⟨rfl,rfl,rfl,rfl,trivial⟩ ?_)))))))
 refine Run.loopP (σ:=Int) (λ s_ L_ w_=>L_=[(0,v0),(3,u1),(4,u2),(6,.int .i64 s_)]∧St e w_ [(false,.val (Rep.slice Association_.rep) v0 a0)] [(false,.box 66 Entity_.rep u1 a1),(true,.box 66 Entity_.rep u2 Entity_.z)]) hF ⟨rfl,(h2.facts (.atm .z .nil)).picks (.cons (.s .z) (.cons .z .nil))⟩ (λ k1 hk1 s1 _ w3 hI hF=>?_)
 obtain ⟨rfl,h3⟩:=hI
 refine Run.seq (sr (gm rfl (gm rfl (op (OpS.len h3 Tryz.underlying76 rfl rfl rfl (V.at .z) ?_)))))
 refine gb rfl (nil ?_)
 refine Run.ite rfl hF (λ e1 hF=>?_) (λ e1 hF=>?_)
 ·refine Run.skip (Run.seq (Run.block (Run.seq ?_)))
  obtain ⟨x1,e2,hF⟩:=bindP_use hF
  refine Run.drawV (Ωs:=[(true,.box 66 Entity_.rep u2 Entity_.z)]) [.k 13 v0,.k 14 (.int .i64 s1),.f 15 (λ u_=>[(false,.ptr Association_.rep u_ x1)]),.f 16 (λ u_=>[(false,.ptr Entity_.rep u_ x1.Contained)]),.f 17 (λ u_=>[(false,.val Entity_.rep u_ x1.Contained)]),.fr 18 (λ u_=>[(false,.val Entity_.rep u_ a1)]) [0]] [[],[],[0,1],[2],[3],[]] [[(false,.box 66 Entity_.rep u1 a1)]] [0,1,2,3,4,5,6] Try_mixed rfl rfl rfl h3 (.cons ?_ (.cons ?_ (.cons ?_ (.cons ?_ (.cons ?_ (.cons ?_ .nil)))))) (λ q1 w hq1 h=>?_)
  ·intro q1 w Γx Ωx h
   refine OpS.mv rfl rfl rfl ?_
   exact du h
  ·intro q1 w Γx Ωx h
   refine OpS.mv rfl rfl rfl ?_
   exact du h
  ·intro q1 w Γx Ωx h
   refine OpS.iptr h Tryz.underlying76 ty83 rfl rfl rfl rfl (V.at .z) e2 (λ u h8=>?_)
   exact ⟨u,rfl,trivial,h8⟩
  ·intro q1 w Γx Ωx h
   refine OpS.fptr h fa83_1 Association_.f1 rfl rfl rfl .z (λ u h9=>?_)
   exact ⟨u,rfl,trivial,h9⟩
  ·intro q1 w Γx Ωx h
   refine OpS.load h ty66 rfl rfl rfl .z (λ u h10=>?_)
   exact ⟨u,rfl,trivial,h10⟩
  ·intro q1 w Γx Ωx h
   refine OpS.loadB h .z PA.z Get.id ty66 rfl rfl rfl (λ u h11=>?_)
   exact ⟨u,rfl,trivial,h11⟩
  have h12:=h
  refine op (OpS.eqA h12 eqt66 rfl gdf66 rfl rfl rfl rfl rfl (V.at (.s (.s .z))) (V.at (.s (.s (.s .z)))) ?_)
  refine nil ?_
  refine Run.ite rfl hF (λ e3 hF=>?_) (λ e3 hF=>?_)
  ·refine sr (gm rfl (gm rfl ?_))
   obtain ⟨x2,e4,hF⟩:=bindP_use hF
   refine op (OpS.iptr h12 Tryz.underlying76 ty83 rfl rfl rfl rfl (V.at (.s (.s (.s (.s .z))))) e4 (λ u3 h13=>?_))
   refine op (OpS.fptr h13 fa83_0 Association_.f0 rfl rfl rfl .z (λ u4 h14=>?_))
   refine op (OpS.load h14 ty66 rfl rfl rfl .z (λ u5 h15=>?_))
   have h16:=(h15.pick (.s .z)).weak
   refine op (OpS.storeB (f':=false) h16 .z PA.z Put.id ty66 rfl rfl rfl (V.at .z) (.inr rfl) (λ w4 h17=>?_))
   refine ga rfl (nil ?_)
   obtain ⟨u6,hu1,h18⟩:=res_box h17 .z ty66
   refine Run.retP rfl (.cell rfl hu1 (.tmp rfl .nil)) ?_
   cases hF
   exact Post.mk' ⟨u6,rfl,rfl,rfl,rfl⟩ (h18.picks .nil) (.val (V.at .z) .nil)
  refine Run.skip (Run.endBlock (Run.reg (gm rfl (gb rfl (ga rfl ?_)))))
  obtain ⟨x3,e5,hF⟩:=letP_use hF
  refine RunL.name e5 ?_
  refine nil (Run.slim [(0,v0),(3,u1),(4,u2),(6,.int .i64 x3)] ⟨rfl,rfl,rfl,rfl,trivial⟩ ?_)
  exact hk1 (x3) _ _ ⟨rfl,(h12.facts (.atm (.s (.s (.s (.s .z)))) .nil)).picks (.cons .z (.cons .z .nil))⟩ hF
 refine Run.exit rfl ?_
 refine sr (op (OpS.build (f:=true) (x':=Entity_.z) h3 pl66 ti66 Entity_.zr rfl rfl rfl .nil (λ u7 h19=>?_)))
 refine op (OpS.storeB (f':=true) h19 (.s .z) PA.z Put.id ty66 rfl rfl rfl (V.at .z) (.inl rfl) (λ w5 h20=>?_))
 refine ga rfl (nil ?_)
 obtain ⟨u8,hu2,h21⟩:=res_box h20 .z ty66
 refine Run.retP rfl (.cell rfl hu2 (.tmp rfl .nil)) ?_
 cases hF
 exact Post.mk' ⟨u8,rfl,rfl,rfl,rfl⟩ (h21.picks .nil) (.val (V.weak (V.at .z)) .nil)
set_option maxHeartbeats 8000000 in set_option maxRecDepth 20000 in
theorem ref15_Check_ok {fuel:Nat} {a0:List Association_} {y:Int} (hF:ref15_Check fuel a0=some y) {w:World} {v0:Value} :
  Spec Tryz.prog 95 [v0].toArray w [(false,.val (Rep.slice Association_.rep) v0 a0)] [] (λ v Γr Ωr Ωo=>v=.int .i64 y∧Γr=[]∧Ωr=[]∧Ωo=[]):=by
 refine Spec.of (L:=[(0,v0)]) Tryz.func95 rfl ⟨rfl,trivial⟩ rfl (λ e h=>?_)
 unfold ref15_Check at hF
 refine sr (ga rfl (nil (Run.seq (sr (gm rfl (op (OpS.len h Tryz.underlying76 rfl rfl rfl (V.at .z) ?_)))))))
 refine gb rfl (nil ?_)
 refine Run.ite rfl hF (λ e1 hF=>?_) (λ e1 hF=>?_)
 ·refine sr (ga rfl (nil (Run.retP rfl (.tmp rfl .nil) ?_)))
  cases hF
  exact Post.mk' ⟨rfl,rfl,rfl,rfl⟩ (h.picks .nil) .nil
 refine Run.skip (Run.seq (sr (ga rfl (nil (Run.block (Run.slim [(0,v0),(3,.int .i64 0)] ⟨rfl,rfl,trivial⟩ ?_))))))
 refine Run.loopP (σ:=Int) (λ s_ L_ w_=>L_=[(0,v0),(3,.int .i64 s_)]∧St e w_ [(false,.val (Rep.slice Association_.rep) v0 a0)] []) hF ⟨rfl,(h.facts (.atm .z .nil)).picks .nil⟩ (λ k1 hk1 s1 _ w1 hI hF=>?_)
 obtain ⟨rfl,h1⟩:=hI
 refine Run.seq (sr (gm rfl (gm rfl (op (OpS.len h1 Tryz.underlying76 rfl rfl rfl (V.at .z) ?_)))))
 refine gb rfl (nil ?_)
 refine Run.ite rfl hF (λ e2 hF=>?_) (λ e2 hF=>?_)
 ·refine Run.skip (Run.seq (Run.block (sr (ga rfl (nil (Run.block (Run.slim [(0,v0),(3,.int .i64 s1),(4,.int .i64 0)] ⟨rfl,rfl,rfl,trivial⟩ ?_)))))))
  refine Run.loopP (σ:=Int) (λ s_ L_ w_=>L_=[(0,v0),(3,.int .i64 s1),(4,.int .i64 s_)]∧St e w_ [(false,.val (Rep.slice Association_.rep) v0 a0)] []) hF ⟨rfl,(h1.facts (.atm .z .nil)).picks .nil⟩ (λ k2 hk2 s2 _ w2 hI hF=>?_)
  obtain ⟨rfl,h2⟩:=hI
  refine Run.seq (sr (gm rfl (gm rfl (gb rfl (nil ?_)))))
  refine Run.ite rfl hF (λ e3 hF=>?_) (λ e3 hF=>?_)
  ·refine Run.skip (Run.seq (Run.block (Run.seq ?_)))
   obtain ⟨x1,e4,hF⟩:=bindP_use hF
   obtain ⟨x2,e5,hF⟩:=bindP_use hF
   refine Run.drawV (Ωs:=[]) [.k 24 v0,.k 25 (.int .i64 s2),.f 26 (λ u_=>[(false,.ptr Association_.rep u_ x1)]),.f 27 (λ u_=>[(false,.ptr Entity_.rep u_ x1.Contained)]),.f 28 (λ u_=>[(false,.val Entity_.rep u_ x1.Contained)]),.k 29 v0,.k 30 (.int .i64 s1),.f 31 (λ u_=>[(false,.ptr Association_.rep u_ x2)]),.f 32 (λ u_=>[(false,.ptr Entity_.rep u_ x2.Contained)]),.f 33 (λ u_=>[(false,.val Entity_.rep u_ x2.Contained)])] [[],[],[0,1],[2],[3],[],[],[5,6],[7],[8]] [] [0,1,2,3,4,5,6,7,8,9] Try_mixed rfl rfl rfl h2 (.cons ?_ (.cons ?_ (.cons ?_ (.cons ?_ (.cons ?_ (.cons ?_ (.cons ?_ (.cons ?_ (.cons ?_ (.cons ?_ .nil)))))))))) (λ q1 w hq1 h=>?_)
   ·intro q1 w Γx Ωx h
    refine OpS.mv rfl rfl rfl ?_
    exact du h
   ·intro q1 w Γx Ωx h
    refine OpS.mv rfl rfl rfl ?_
    exact du h
   ·intro q1 w Γx Ωx h
    refine OpS.iptr h Tryz.underlying76 ty83 rfl rfl rfl rfl (V.at .z) e4 (λ u h9=>?_)
    exact ⟨u,rfl,trivial,h9⟩
   ·intro q1 w Γx Ωx h
    refine OpS.fptr h fa83_1 Association_.f1 rfl rfl rfl .z (λ u h10=>?_)
    exact ⟨u,rfl,trivial,h10⟩
   ·intro q1 w Γx Ωx h
    refine OpS.load h ty66 rfl rfl rfl .z (λ u h11=>?_)
    exact ⟨u,rfl,trivial,h11⟩
   ·intro q1 w Γx Ωx h
    refine OpS.mv rfl rfl rfl ?_
    exact du h
   ·intro q1 w Γx Ωx h
    refine OpS.mv rfl rfl rfl ?_
    exact du h
   ·intro q1 w Γx Ωx h
    refine OpS.iptr h Tryz.underlying76 ty83 rfl rfl rfl rfl (V.at .z) e5 (λ u h12=>?_)
    exact ⟨u,rfl,trivial,h12⟩
   ·intro q1 w Γx Ωx h
    refine OpS.fptr h fa83_1 Association_.f1 rfl rfl rfl .z (λ u h13=>?_)
    exact ⟨u,rfl,trivial,h13⟩
   ·intro q1 w Γx Ωx h
    refine OpS.load h ty66 rfl rfl rfl .z (λ u h14=>?_)
    exact ⟨u,rfl,trivial,h14⟩
   have h15:=h
   refine op (OpS.eqA h15 eqt66 rfl gdf66 rfl rfl rfl rfl rfl (V.at (.s (.s .z))) (V.at (.s (.s (.s (.s (.s .z)))))) ?_)
   refine nil ?_
   refine Run.ite rfl hF (λ e6 hF=>?_) (λ e6 hF=>?_)
   ·refine sr (ga rfl (nil (Run.retP rfl (.tmp rfl .nil) ?_)))
    cases hF
    exact Post.mk' ⟨rfl,rfl,rfl,rfl⟩ (h15.picks .nil) .nil
   refine Run.skip (Run.endBlock (Run.reg (gm rfl (gb rfl (ga rfl ?_)))))
   obtain ⟨x3,e7,hF⟩:=letP_use hF
   refine RunL.name e7 ?_
   refine nil (Run.slim [(0,v0),(3,.int .i64 s1),(4,.int .i64 x3)] ⟨rfl,rfl,rfl,trivial⟩ ?_)
   exact hk2 (x3) _ _ ⟨rfl,(h15.facts (.atm (.s (.s (.s (.s (.s (.s .z)))))) .nil)).picks .nil⟩ hF
  refine Run.exit rfl ?_
  refine Run.endBlock (Run.reg (gm rfl (gb rfl (ga rfl ?_))))
  obtain ⟨x4,e8,hF⟩:=letP_use hF
  refine RunL.name e8 ?_
  refine nil (Run.slim [(0,v0),(3,.int .i64 x4)] ⟨rfl,rfl,trivial⟩ ?_)
  exact hk1 (x4) _ _ ⟨rfl,(h2.facts (.atm .z .nil)).picks .nil⟩ hF
 refine Run.exit rfl ?_
 refine Run.seq (sr (ga rfl (nil (Run.block (Run.slim [(0,v0),(5,.int .i64 0)] ⟨rfl,rfl,trivial⟩ ?_)))))
 refine Run.loopP (σ:=Int) (λ s_ L_ w_=>L_=[(0,v0),(5,.int .i64 s_)]∧St e w_ [(false,.val (Rep.slice Association_.rep) v0 a0)] []) hF ⟨rfl,(h1.facts (.atm .z .nil)).picks .nil⟩ (λ k3 hk3 s3 _ w3 hI hF=>?_)
 obtain ⟨rfl,h16⟩:=hI
 refine Run.seq (sr (gm rfl (gm rfl (op (OpS.len h16 Tryz.underlying76 rfl rfl rfl (V.at .z) ?_)))))
 refine gb rfl (nil ?_)
 refine Run.ite rfl hF (λ e9 hF=>?_) (λ e9 hF=>?_)
 ·refine Run.skip (Run.seq (Run.block (sr (gm rfl (gm rfl ?_)))))
  obtain ⟨x5,e10,hF⟩:=bindP_use hF
  refine op (OpS.iptr h16 Tryz.underlying76 ty83 rfl rfl rfl rfl (V.at .z) e10 (λ u1 h17=>?_))
  refine op (OpS.fptr h17 fa83_1 Association_.f1 rfl rfl rfl .z (λ u2 h18=>?_))
  refine op (OpS.load h18 ty66 rfl rfl rfl .z (λ u3 h19=>?_))
  refine op (OpS.alloc h19 ti66 Entity_.zr rfl rfl (λ u4 w4 h20=>?_))
  have h21:=(h20.pick .z).weak
  refine op (OpS.storeB (f':=false) h21 .z PA.z Put.id ty66 rfl rfl rfl (V.at .z) (.inr rfl) (λ w5 h22=>?_))
  refine nil (sr (ga rfl (nil (Run.block (Run.slim [(0,v0),(5,.int .i64 s3),(6,u4),(7,.int .i64 0)] ⟨rfl,rfl,rfl,rfl,trivial⟩ ?_)))))
  refine Run.loopP (σ:=(Int×Entity_)) (λ s_ L_ w_=>L_=[(0,v0),(5,.int .i64 s3),(6,u4),(7,.int .i64 s_.1)]∧St e w_ [(false,.val (Rep.slice Association_.rep) v0 a0)] [(false,.box 66 Entity_.rep u4 s_.2)]) hF ⟨rfl,(h22.facts (.atm (.s (.s (.s .z))) .nil)).picks (.cons .z .nil)⟩ (λ k4 hk4 s4 _ w6 hI hF=>?_)
  obtain ⟨rfl,h23⟩:=hI
  refine Run.seq (sr (gm rfl (gm rfl (op (OpS.len h23 Tryz.underlying76 rfl rfl rfl (V.at .z) ?_)))))
  refine gb rfl (nil ?_)
  refine Run.ite rfl hF (λ e11 hF=>?_) (λ e11 hF=>?_)
  ·refine Run.skip (Run.seq (Run.block (sr (gm rfl (op (OpS.loadB h23 .z PA.z Get.id ty66 rfl rfl rfl (λ u5 h24=>?_)))))))
   obtain ⟨y1,e12,hF⟩:=bindP_use hF
   have h25:=h24.front .nil
   refine op (OpS.callO h25 Tryz.func159 rfl rfl rfl rfl (vs:=[v0,u5]) rfl (ref15_Parent_ok e12) rfl (.cons (f:=false) (V.at (.s .z)) (.cons (f:=false) (V.at .z) .nil)) ?_)
   rintro _ w7 _ _ _ ⟨u6,rfl,rfl,rfl,rfl⟩ h26
   have h27:=h26
   simp only [ca,na] at h27
   refine gm rfl (op (OpS.ext rfl rfl rfl rfl ?_))
   refine op (OpS.ext rfl rfl rfl rfl ?_)
   refine op (OpS.alloc h27 ti66 Entity_.zr rfl rfl (λ u7 w8 h28=>?_))
   have h29:=(h28.pick .z).weak
   refine op (OpS.storeB (f':=false) h29 .z PA.z Put.id ty66 rfl rfl rfl (V.at .z) (.inr rfl) (λ w9 h30=>?_))
   refine ga rfl (nil (Run.seq (sr (gm rfl (op (OpS.not rfl rfl rfl ?_))))))
   refine nil ?_
   refine Run.ite rfl hF (λ e13 hF=>?_) (λ e13 hF=>?_)
   ·refine Run.exit rfl ?_
    refine Run.endBlock (Run.reg (gm rfl (gb rfl (ga rfl ?_))))
    obtain ⟨x6,e14,hF⟩:=letP_use hF
    refine RunL.name e14 ?_
    refine nil (Run.slim [(0,v0),(5,.int .i64 x6)] ⟨rfl,rfl,trivial⟩ ?_)
    exact hk3 (x6) _ _ ⟨rfl,(h30.facts (.atm (.s (.s .z)) .nil)).picks .nil⟩ hF
   refine Run.skip (Run.seq (Run.seq ?_))
   obtain ⟨x7,e15,hF⟩:=bindP_use hF
   refine Run.drawV (Ωs:=[(false,.box 66 Entity_.rep u4 s4.2)]) [.fr 60 (λ u_=>[(false,.val Entity_.rep u_ y1.1)]) [0],.k 61 v0,.k 62 (.int .i64 s3),.f 63 (λ u_=>[(false,.ptr Association_.rep u_ x7)]),.f 64 (λ u_=>[(false,.ptr Entity_.rep u_ x7.Contained)]),.f 65 (λ u_=>[(false,.val Entity_.rep u_ x7.Contained)])] [[],[],[],[1,2],[3],[4]] [[(false,.box 66 Entity_.rep u7 y1.1)]] [0,1,2,3,4,5,6] Try_mixed rfl rfl rfl h30 (.cons ?_ (.cons ?_ (.cons ?_ (.cons ?_ (.cons ?_ (.cons ?_ .nil)))))) (λ q2 w hq2 h=>?_)
   ·intro q2 w Γx Ωx h
    refine OpS.loadB h .z PA.z Get.id ty66 rfl rfl rfl (λ u h35=>?_)
    exact ⟨u,rfl,trivial,h35⟩
   ·intro q2 w Γx Ωx h
    refine OpS.mv rfl rfl rfl ?_
    exact du h
   ·intro q2 w Γx Ωx h
    refine OpS.mv rfl rfl rfl ?_
    exact du h
   ·intro q2 w Γx Ωx h
    refine OpS.iptr h Tryz.underlying76 ty83 rfl rfl rfl rfl (V.at (.s (.s .z))) e15 (λ u h36=>?_)
    exact ⟨u,rfl,trivial,h36⟩
   ·intro q2 w Γx Ωx h
    refine OpS.fptr h fa83_1 Association_.f1 rfl rfl rfl .z (λ u h37=>?_)
    exact ⟨u,rfl,trivial,h37⟩
   ·intro q2 w Γx Ωx h
    refine OpS.load h ty66 rfl rfl rfl .z (λ u h38=>?_)
    exact ⟨u,rfl,trivial,h38⟩
   have h39:=h
   refine op (OpS.eqA h39 eqt66 rfl gdf66 rfl rfl rfl rfl rfl (V.at .z) (V.at (.s (.s (.s .z)))) ?_)
   refine nil ?_
   refine Run.ite rfl hF (λ e16 hF=>?_) (λ e16 hF=>?_)
   ·refine sr (ga rfl (nil (Run.retP rfl (.tmp rfl .nil) ?_)))
    cases hF
    exact Post.mk' ⟨rfl,rfl,rfl,rfl⟩ (h39.picks .nil) .nil
   refine Run.skip (Run.reg (op (OpS.loadB h39 .z PA.z Get.id ty66 rfl rfl rfl (λ u8 h40=>?_))))
   refine op (OpS.storeB (f':=false) h40 (.s .z) PA.z Put.id ty66 rfl rfl rfl (V.at .z) (.inr rfl) (λ w10 h41=>?_))
   refine nil (Run.endBlock (Run.reg (gm rfl (gb rfl (ga rfl ?_)))))
   obtain ⟨x8,e17,hF⟩:=letP_use hF
   refine RunL.name e17 ?_
   refine nil (Run.slim [(0,v0),(5,.int .i64 s3),(6,u4),(7,.int .i64 x8)] ⟨rfl,rfl,rfl,rfl,trivial⟩ ?_)
   exact hk4 (x8,y1.1) _ _ ⟨rfl,(h41.facts (.atm (.s (.s (.s (.s (.s (.s (.s .z))))))) .nil)).picks (.cons .z .nil)⟩ hF
  refine Run.exit rfl ?_
  refine Run.endBlock (Run.reg (gm rfl (gb rfl (ga rfl ?_))))
  obtain ⟨x9,e18,hF⟩:=letP_use hF
  refine RunL.name e18 ?_
  refine nil (Run.slim [(0,v0),(5,.int .i64 x9)] ⟨rfl,rfl,trivial⟩ ?_)
  exact hk3 (x9) _ _ ⟨rfl,(h23.facts (.atm .z .nil)).picks .nil⟩ hF
 refine Run.exit rfl ?_
 refine sr (ga rfl (nil (Run.retP rfl (.tmp rfl .nil) ?_)))
 cases hF
 exact Post.mk' ⟨rfl,rfl,rfl,rfl⟩ (h16.picks .nil) .nil
theorem made_Dice_Associations_ok {fuel:Nat} {a0:made_Dice} {a1:Int} {y:(List Association_)×made_Dice} (hF:made_Dice_Associations fuel a0 a1=some y) {w:World} {v0:Value} :
  Spec Tryz.prog 29 [v0,.int .i64 a1].toArray w [] [(false,.box 163 made_Dice.rep v0 a0)] (λ v Γr Ωr Ωo=>∃ u0:Value,v=u0∧Γr=[(true,.val (Rep.slice Association_.rep) u0 y.1)]∧Ωr=[]∧Ωo=[(false,.box 163 made_Dice.rep v0 y.2)]):=by
 refine Spec.of (L:=[(0,v0),(1,.int .i64 a1)]) Tryz.func29 rfl ⟨rfl,rfl,trivial⟩ rfl (λ e h=>?_)
 unfold made_Dice_Associations at hF
 refine sr (ga rfl (nil (sr (ga rfl (nil (Run.seq (sr (gm rfl (gm rfl (gb rfl ?_))))))))))
 obtain ⟨y1,e1,hF⟩:=bindP_use hF
 have h1:=h.front (.cons .z .nil)
 refine op (OpS.callO h1 Tryz.func54 rfl rfl rfl rfl (vs:=[v0,.int .i64 (IntKind.i64.wrap (a1+1))]) rfl (made_Dice_Next_ok e1) rfl .nil ?_)
 rintro _ w1 _ _ _ ⟨rfl,rfl,rfl,rfl⟩ h2
 have h3:=h2
 simp only [ca,na] at h3
 refine ga rfl (nil (Run.block (Run.slim [(0,v0),(5,.slice none 0 0),(6,.int .i64 y1.1)] ⟨rfl,rfl,rfl,trivial⟩ ?_)))
 refine Run.loopP (σ:=((List Association_)×Int×made_Dice)) (λ s_ L_ w_=>∃ u0_:Value,L_=[(0,v0),(5,u0_),(6,.int .i64 s_.2.1)]∧St e w_ [(true,.val (Rep.slice Association_.rep) u0_ s_.1)] [(false,.box 163 made_Dice.rep v0 s_.2.2)]) hF ⟨.slice none 0 0,rfl,(h3.facts (.val V.nil .nil)).picks (.cons .z .nil)⟩ (λ k1 hk1 s1 _ w2 hI hF=>?_)
 obtain ⟨u1,rfl,h4⟩:=hI
 refine Run.seq (sr (gm rfl (gb rfl (nil ?_))))
 refine Run.ite rfl hF (λ e2 hF=>?_) (λ e2 hF=>?_)
 ·refine Run.skip (Run.seq (Run.block (sr (gm rfl ?_))))
  have h5:=St.nil 83 Association_.rep h4
  obtain ⟨x1,e3,hF⟩:=bindP_use hF
  refine op (OpS.app (f':=true) h5 .z Tryz.underlying76 ti83 rfl rfl rfl rfl rfl rfl rfl (V.at .z) (.inr Association_.pure) e3 (λ u2 w3 h6=>?_))
  refine gm rfl ?_
  obtain ⟨y2,e4,hF⟩:=bindP_use hF
  have h7:=h6.front (.cons (.s .z) .nil)
  refine op (OpS.callO h7 Tryz.func32 rfl rfl rfl rfl (vs:=[v0]) rfl (made_Dice_Entity_ok e4) rfl .nil ?_)
  rintro u3 w4 _ _ _ ⟨_,rfl,rfl,rfl,rfl⟩ h8
  have h9:=h8
  simp only [ca,na] at h9
  refine gm rfl ?_
  obtain ⟨y3,e5,hF⟩:=bindP_use hF
  have h10:=h9.front (.cons .z .nil)
  refine op (OpS.callO h10 Tryz.func32 rfl rfl rfl rfl (vs:=[v0]) rfl (made_Dice_Entity_ok e5) rfl .nil ?_)
  rintro u4 w5 _ _ _ ⟨_,rfl,rfl,rfl,rfl⟩ h11
  have h12:=h11
  simp only [ca,na] at h12
  refine op (OpS.build (f:=true) (x':=(⟨y2.1,y3.1⟩:Association_)) h12 pl83 ti83 Association_.zr rfl rfl rfl (.cons rfl Association_.f0 rfl (V.at (.s .z)) (.cons rfl Association_.f1 rfl (V.at .z) .nil)) (λ u5 h13=>?_))
  refine op (OpS.lit (r:=Association_.rep) (f:=true) h13 Tryz.underlying76 ti83 rfl rfl rfl rfl rfl (.cons rfl (V.at .z) .nil) rfl rfl (λ u6 w6 h14=>?_))
  obtain ⟨x2,e6,hF⟩:=bindP_use hF
  refine op (OpS.app (f':=true) h14 (.s .z) Tryz.underlying76 ti83 rfl rfl rfl rfl rfl rfl rfl (V.at .z) (.inr Association_.pure) e6 (λ u7 w7 h15=>?_))
  refine ga rfl ?_
  have h16:=(h15.pick .z).freeze
  refine nil (sr (gm rfl ?_))
  obtain ⟨y4,e7,hF⟩:=bindP_use hF
  refine op (OpS.callP h16 Tryz.func95 rfl rfl rfl rfl (vs:=[u7]) rfl (ref15_Check_ok e7) (.cons (f:=true) (V.at .z) .nil) ?_)
  rintro _ w8 _ _ _ ⟨rfl,rfl,rfl,rfl⟩ h17
  have h18:=h17 rfl rfl
  simp only [ca,na] at h18
  refine gb rfl (nil ?_)
  refine Run.ite rfl hF (λ e8 hF=>?_) (λ e8 hF=>?_)
  ·refine Run.reg (gm rfl (ga rfl (nil (Run.endBlock (Run.reg (gm rfl (gb rfl (ga rfl ?_))))))))
   obtain ⟨x3,e9,hF⟩:=letP_use hF
   refine RunL.name e9 ?_
   refine nil (Run.slim [(0,v0),(5,u7),(6,.int .i64 x3)] ⟨rfl,rfl,rfl,trivial⟩ ?_)
   exact hk1 (x2,x3,y3.2) _ _ ⟨u7,rfl,(h18.facts (.val (V.at .z) .nil)).picks (.cons .z .nil)⟩ hF
  refine Run.skip (Run.endBlock (Run.reg (gm rfl (gb rfl (ga rfl ?_)))))
  obtain ⟨x4,e10,hF⟩:=letP_use hF
  refine RunL.name e10 ?_
  refine nil (Run.slim [(0,v0),(5,u1),(6,.int .i64 x4)] ⟨rfl,rfl,rfl,trivial⟩ ?_)
  exact hk1 (s1.1,x4,y3.2) _ _ ⟨u1,rfl,(h18.facts (.val (V.at (.s (.s (.s (.s (.s .z)))))) .nil)).picks (.cons .z .nil)⟩ hF
 refine Run.exit rfl ?_
 refine sr (gm rfl (ga rfl (nil (Run.retP rfl (.tmp rfl .nil) ?_))))
 cases hF
 exact Post.mk' ⟨u1,rfl,rfl,rfl,rfl⟩ (h4.picks (.cons .z .nil)) (.val (V.at .z) .nil)
set_option maxRecDepth 20000 in
theorem made_Dice_near_ok {fuel:Nat} {a0:made_Dice} {a1:Sensor_} {y:Int×made_Dice} (hF:made_Dice_near fuel a0 a1=some y) {w:World} {v0 v1:Value} :
  Spec Tryz.prog 75 [v0,v1].toArray w [(false,.val Sensor_.rep v1 a1)] [(false,.box 163 made_Dice.rep v0 a0)] (λ v Γr Ωr Ωo=>v=.int .u8 y.1∧Γr=[]∧Ωr=[]∧Ωo=[(false,.box 163 made_Dice.rep v0 y.2)]):=by
 refine Spec.of (L:=[(0,v0),(1,v1)]) Tryz.func75 rfl ⟨rfl,rfl,trivial⟩ rfl (λ e h=>?_)
 unfold made_Dice_near at hF
 refine sr (op (OpS.boxF h rfl rfl rfl (V.at .z) (λ u1 w1 h1=>?_)))
 refine ga rfl (nil (Run.seq (sr (gm rfl ?_))))
 obtain ⟨y1,e1,hF⟩:=bindP_use hF
 have h2:=h1.front (.cons (.s .z) .nil)
 refine op (OpS.callO h2 Tryz.func31 rfl rfl rfl rfl (vs:=[v0,.int .i64 3]) rfl (made_Dice_Bool_ok e1) rfl .nil ?_)
 rintro _ w2 _ _ _ ⟨rfl,rfl,rfl,rfl⟩ h3
 have h4:=h3
 simp only [ca,na] at h4
 refine nil ?_
 refine Run.ite rfl hF (λ e2 hF=>?_) (λ e2 hF=>?_)
 ·refine sr (gm rfl ?_)
  obtain ⟨y2,e3,hF⟩:=bindP_use hF
  have h5:=h4.front (.cons .z .nil)
  refine op (OpS.callO h5 Tryz.func76 rfl rfl rfl rfl (vs:=[v0]) rfl (made_Dice_Byte_ok e3) rfl .nil ?_)
  rintro _ w3 _ _ _ ⟨rfl,rfl,rfl,rfl⟩ h6
  have h7:=h6
  simp only [ca,na] at h7
  refine ga rfl (nil (Run.retP rfl (.tmp rfl .nil) ?_))
  cases hF
  exact Post.mk' ⟨rfl,rfl,rfl,rfl⟩ (h7.picks (.cons .z .nil)) .nil
 refine Run.skip (Run.seq ?_)
 obtain ⟨y3,e4,hF⟩:=bindP_use hF
 obtain ⟨x1,e5,hF⟩:=bindP_use hF
 obtain ⟨e6,hF⟩:=chk_use hF
 obtain ⟨y4,e7,hF⟩:=bindP_use hF
 refine Run.drawV (Ωs:=[]) [.k 9 v0,⟨some 10,some (.int .i64 y3.1),λ _=>[],λ ds_ u_=>[(false,.box 163 made_Dice.rep v0 y3.2)],[0],[],none⟩,.kr 11 (padd u1 14) [1],.kr 12 (padd u1 15) [1],.kr 13 (padd u1 (15+(y3.1:Int).toNat*(Rep.int .u8).n)) [1],.kr 14 (.int .u8 x1) [1],.k 15 (.int .i64 (IntKind.i64.wrap x1)),.k 16 v0,⟨some 17,some (.int .i64 y4.1),λ _=>[],λ ds_ u_=>[(false,.box 163 made_Dice.rep v0 y4.2)],[3],[],none⟩] [[],[0],[],[2],[3,1],[4],[5],[],[7]] [[(false,.box 163 made_Dice.rep v0 y1.2)],[(false,.box 74 Sensor_.rep u1 a1)]] [1,2,4,5,6,7,8,9,10] Try_mixed rfl rfl rfl h4 (.cons ?_ (.cons ?_ (.cons ?_ (.cons ?_ (.cons ?_ (.cons ?_ (.cons ?_ (.cons ?_ (.cons ?_ .nil))))))))) (λ q1 w hq1 h=>?_)
 ·intro q1 w Γx Ωx h
  refine OpS.mv rfl rfl rfl ?_
  exact du h
 ·intro q1 w Γx Ωx h
  have h14:=h.front (.cons .z .nil)
  refine OpS.callO h14 Tryz.func54 rfl rfl rfl rfl (vs:=[v0,.int .i64 6]) rfl (made_Dice_Next_ok e4) rfl .nil ?_
  rintro _ w6 _ _ _ ⟨rfl,rfl,rfl,rfl⟩ h15
  have h16:=h15
  simp only [ca,na] at h16
  exact ⟨undef,rfl,trivial,h16⟩
 ·intro q1 w Γx Ωx h
  refine OpS.fbox (o3:=14) h .z PA.z fa74_7 rfl rfl rfl rfl ?_
  exact du h
 ·intro q1 w Γx Ωx h
  refine OpS.fbox (o3:=15) h .z PA.a fa72_1 rfl rfl rfl rfl ?_
  exact du h
 ·intro q1 w Γx Ωx h
  refine OpS.ibox h .z PA.a Tryz.underlying70 ty5 (Nat.eq_of_beq_eq_true e6) rfl rfl rfl rfl e5 ?_
  exact du h
 ·intro q1 w Γx Ωx h
  refine OpS.loadBi h .z PA.a (Get.comp (Get.comp (Get.fld Sensor_.f7) (Get.fld Thresholds_.f1)) (Get.arr e5)) ty5 rfl rfl rfl ?_
  exact du h
 ·intro q1 w Γx Ωx h
  refine OpS.conv Tryz.underlying5 Tryz.underlying3 rfl rfl rfl ?_
  exact du h
 ·intro q1 w Γx Ωx h
  refine OpS.mv rfl rfl rfl ?_
  exact du h
 ·intro q1 w Γx Ωx h
  have h17:=h.front (.cons .z .nil)
  refine OpS.callO h17 Tryz.func54 rfl rfl rfl rfl (vs:=[v0,.int .i64 9]) rfl (made_Dice_Next_ok e7) rfl .nil ?_
  rintro _ w7 _ _ _ ⟨rfl,rfl,rfl,rfl⟩ h18
  have h19:=h18
  simp only [ca,na] at h19
  exact ⟨undef,rfl,trivial,h19⟩
 have h20:=h
 refine gb rfl (gb rfl (op (OpS.rem rfl rfl rfl rfl (by decide) ?_)))
 refine op (OpS.conv Tryz.underlying3 Tryz.underlying5 rfl rfl rfl ?_)
 refine ga rfl ?_
 obtain ⟨x2,e8,hF⟩:=letP_use hF
 refine RunL.name e8 ?_
 refine nil (Run.retP rfl (.tmp rfl .nil) ?_)
 cases hF
 exact Post.mk' ⟨rfl,rfl,rfl,rfl⟩ (h20.picks (.cons (.s .z) .nil)) .nil
set_option maxHeartbeats 8000000 in set_option maxRecDepth 20000 in
theorem made_Dice_Samples_ok {fuel:Nat} {a0:made_Dice} {a1:List Sensor_} {y:(List Sample_)×made_Dice} (hF:made_Dice_Samples fuel a0 a1=some y) {w:World} {v0 v1:Value} :
  Spec Tryz.prog 16 [v0,v1].toArray w [(false,.val (Rep.slice Sensor_.rep) v1 a1)] [(false,.box 163 made_Dice.rep v0 a0)] (λ v Γr Ωr Ωo=>∃ u0:Value,v=u0∧Γr=[]∧Ωr=[(true,(.slice 93 Sample_.rep u0 y.1))]∧Ωo=[(false,.box 163 made_Dice.rep v0 y.2)]):=by
 refine Spec.of (L:=[(0,v0),(1,v1)]) Tryz.func16 rfl ⟨rfl,rfl,trivial⟩ rfl (λ e h=>?_)
 unfold made_Dice_Samples at hF
 refine sr (ga rfl (nil (sr (ga rfl (nil (Run.seq (sr (ga rfl (nil (Run.block ?_))))))))))
 have h1:=St.nil 93 Sample_.rep h
 refine Run.slim [(0,v0),(1,v1),(5,(.slice none 0 0)),(6,.int .i64 0)] ⟨rfl,rfl,rfl,rfl,trivial⟩ ?_
 refine Run.loopP (σ:=(Int×made_Dice×(List Sample_))) (λ s_ L_ w_=>∃ u0_:Value,L_=[(0,v0),(1,v1),(5,u0_),(6,.int .i64 s_.1)]∧St e w_ [(false,.val (Rep.slice Sensor_.rep) v1 a1)] [(false,.box 163 made_Dice.rep v0 s_.2.1),(true,.slice 93 Sample_.rep u0_ s_.2.2)]) hF ⟨(.slice none 0 0),rfl,(h1.facts (.atm .z .nil)).picks (.cons (.s .z) (.cons .z .nil))⟩ (λ k1 hk1 s1 _ w1 hI hF=>?_)
 obtain ⟨u1,rfl,h2⟩:=hI
 refine Run.seq (sr (gm rfl (gm rfl (op (OpS.len h2 Tryz.underlying27 rfl rfl rfl (V.at .z) ?_)))))
 refine gb rfl (nil ?_)
 refine Run.ite rfl hF (λ e1 hF=>?_) (λ e1 hF=>?_)
 ·refine Run.skip (Run.seq (Run.block (sr (gm rfl (gm rfl ?_)))))
  obtain ⟨x1,e2,hF⟩:=bindP_use hF
  refine op (OpS.iptr h2 Tryz.underlying27 ty74 rfl rfl rfl rfl (V.at .z) e2 (λ u2 h3=>?_))
  refine op (OpS.load h3 ty74 rfl rfl rfl .z (λ u3 h4=>?_))
  refine op (OpS.alloc h4 ti74 Sensor_.zr rfl rfl (λ u4 w2 h5=>?_))
  have h6:=(h5.pick .z).weak
  refine op (OpS.storeB (f':=false) h6 .z PA.z Put.id ty74 rfl rfl rfl (V.at .z) (.inr rfl) (λ w3 h7=>?_))
  refine nil (Run.seq (sr (gm rfl ?_)))
  obtain ⟨y1,e3,hF⟩:=bindP_use hF
  have h8:=h7.front (.cons (.s .z) .nil)
  refine op (OpS.callO h8 Tryz.func31 rfl rfl rfl rfl (vs:=[v0,.int .i64 8]) rfl (made_Dice_Bool_ok e3) rfl .nil ?_)
  rintro _ w4 _ _ _ ⟨rfl,rfl,rfl,rfl⟩ h9
  have h10:=h9
  simp only [ca,na] at h10
  refine nil ?_
  refine Run.ite rfl hF (λ e4 hF=>?_) (λ e4 hF=>?_)
  ·refine Run.exit rfl ?_
   refine Run.reg (gm rfl (gb rfl (ga rfl ?_)))
   obtain ⟨x2,e5,hF⟩:=letP_use hF
   refine RunL.name e5 ?_
   refine nil (Run.slim [(0,v0),(1,v1),(5,u1),(6,.int .i64 x2)] ⟨rfl,rfl,rfl,rfl,trivial⟩ ?_)
   exact hk1 (x2,y1.2,s1.2.2) _ _ ⟨u1,rfl,(h10.facts (.atm (.s (.s .z)) .nil)).picks (.cons .z (.cons (.s .z) .nil))⟩ hF
  refine Run.skip (Run.seq ?_)
  obtain ⟨y2,e6,hF⟩:=bindP_use hF
  refine Run.drawV (Ωs:=[(true,.slice 93 Sample_.rep u1 s1.2.2)]) [.kr 21 (padd u4 0) [1],.kr 22 (.int .u8 x1.Number) [1],.k 23 v0,⟨some 24,some (.bool y2.1),λ _=>[],λ ds_ u_=>[(false,.box 163 made_Dice.rep v0 y2.2)],[0],[],none⟩,.k 25 (.bool (!y2.1)),.f 26 (λ u_=>[(true,.val Sample_.rep u_ (⟨x1.Number,!y2.1,0,0⟩:Sample_))]),⟨some 8,none,λ u_=>[],λ ds_ u_=>[(true,.box 93 Sample_.rep u_ Sample_.z)],[],[],none⟩] [[],[0],[],[2],[3],[1,4],[]] [[(false,.box 163 made_Dice.rep v0 y1.2)],[(false,.box 74 Sensor_.rep u4 x1)]] [1,2,3,4,5,6,7,8] Try_mixed rfl rfl rfl h10 (.cons ?_ (.cons ?_ (.cons ?_ (.cons ?_ (.cons ?_ (.cons ?_ (.cons ?_ .nil))))))) (λ q1 w hq1 h=>?_)
  ·intro q1 w Γx Ωx h
   refine OpS.fbox (o3:=0) h .z PA.z fa74_0 rfl rfl rfl rfl ?_
   exact du h
  ·intro q1 w Γx Ωx h
   refine OpS.loadBi h .z PA.a (Get.fld Sensor_.f0) ty5 rfl rfl rfl ?_
   exact du h
  ·intro q1 w Γx Ωx h
   refine OpS.mv rfl rfl rfl ?_
   exact du h
  ·intro q1 w Γx Ωx h
   have h16:=h.front (.cons .z .nil)
   refine OpS.callO h16 Tryz.func31 rfl rfl rfl rfl (vs:=[v0,.int .i64 6]) rfl (made_Dice_Bool_ok e6) rfl .nil ?_
   rintro _ w7 _ _ _ ⟨rfl,rfl,rfl,rfl⟩ h17
   have h18:=h17
   simp only [ca,na] at h18
   exact ⟨undef,rfl,trivial,h18⟩
  ·intro q1 w Γx Ωx h
   refine OpS.not rfl rfl rfl ?_
   exact du h
  ·intro q1 w Γx Ωx h
   refine OpS.build (f:=true) (x':=(⟨x1.Number,!y2.1,0,0⟩:Sample_)) h pl93 ti93 Sample_.zr rfl rfl rfl (.cons rfl Sample_.f0 rfl V.int (.cons rfl Sample_.f1 rfl V.bool .nil)) (λ u h19=>?_)
   exact ⟨u,rfl,trivial,h19⟩
  ·intro q1 w Γx Ωx h
   refine OpS.alloc h ti93 Sample_.zr rfl rfl (λ u w8 h20=>?_)
   exact ⟨u,rfl,trivial,h20⟩
  have h21:=h
  refine op (OpS.storeB (f':=true) h21 (.s (.s .z)) PA.z Put.id ty93 rfl rfl rfl (V.at .z) (.inl rfl) (λ w9 h22=>?_))
  refine nil (Run.seq (sr (op (OpS.fbox (o3:=1) h22 .z PA.z fa93_1 rfl rfl rfl rfl ?_))))
  refine op (OpS.loadBb h22 .z PA.a (Get.fld Sample_.f1) ty4 rfl rfl rfl ?_)
  refine gm rfl ?_
  refine RunL.join (σ:=Bool) (λ s_ L_ w_=>L_=[(0,v0),(1,v1),(5,u1),(6,.int .i64 s1.1),(7,u4),(8,(q1 6)),(32,.bool s_)]∧St e w_ [(false,.val (Rep.slice Sensor_.rep) v1 a1)] [(false,.box 163 made_Dice.rep v0 y2.2),(false,.box 74 Sensor_.rep u4 x1),(true,.box 93 Sample_.rep (q1 6) (⟨x1.Number,!y2.1,0,0⟩:Sample_)),(true,.slice 93 Sample_.rep u1 s1.2.2)]) hF (λ s2 _ w10 hI hF=>?_) (λ j1 hj1 hF=>?_)
  ·obtain ⟨rfl,h23⟩:=hI
   refine Run.join (σ:=(made_Dice×Sample_)) (λ s_ L_ w_=>L_=[(0,v0),(1,v1),(5,u1),(6,.int .i64 s1.1),(7,u4),(8,(q1 6))]∧St e w_ [(false,.val (Rep.slice Sensor_.rep) v1 a1)] [(false,.box 163 made_Dice.rep v0 s_.1),(false,.box 74 Sensor_.rep u4 x1),(true,.box 93 Sample_.rep (q1 6) s_.2),(true,.slice 93 Sample_.rep u1 s1.2.2)]) hF (λ s3 _ w11 hI hF=>?_) (λ j2 hj2 hF=>?_)
   ·obtain ⟨rfl,h24⟩:=hI
    refine Run.seq (sr (op (OpS.fbox (o3:=1) h24 (.s (.s .z)) PA.z fa93_1 rfl rfl rfl rfl ?_)))
    refine op (OpS.loadBb h24 (.s (.s .z)) PA.a (Get.fld Sample_.f1) ty4 rfl rfl rfl ?_)
    refine gm rfl ?_
    refine RunL.join (σ:=Bool) (λ s_ L_ w_=>L_=[(0,v0),(1,v1),(5,u1),(6,.int .i64 s1.1),(7,u4),(8,(q1 6)),(46,.bool s_)]∧St e w_ [(false,.val (Rep.slice Sensor_.rep) v1 a1)] [(false,.box 163 made_Dice.rep v0 s3.1),(false,.box 74 Sensor_.rep u4 x1),(true,.box 93 Sample_.rep (q1 6) s3.2),(true,.slice 93 Sample_.rep u1 s1.2.2)]) hF (λ s4 _ w12 hI hF=>?_) (λ j3 hj3 hF=>?_)
    ·obtain ⟨rfl,h25⟩:=hI
     refine Run.join (σ:=(made_Dice×Sample_)) (λ s_ L_ w_=>L_=[(0,v0),(1,v1),(5,u1),(6,.int .i64 s1.1),(8,(q1 6))]∧St e w_ [(false,.val (Rep.slice Sensor_.rep) v1 a1)] [(false,.box 163 made_Dice.rep v0 s_.1),(true,.box 93 Sample_.rep (q1 6) s_.2),(true,.slice 93 Sample_.rep u1 s1.2.2)]) hF (λ s5 _ w13 hI hF=>?_) (λ j4 hj4 hF=>?_)
     ·obtain ⟨rfl,h26⟩:=hI
      refine Run.seq (sr (gm rfl ?_))
      obtain ⟨y3,e7,hF⟩:=bindP_use hF
      have h27:=h26.front (.cons .z .nil)
      refine op (OpS.callO h27 Tryz.func31 rfl rfl rfl rfl (vs:=[v0,.int .i64 150]) rfl (made_Dice_Bool_ok e7) rfl .nil ?_)
      rintro _ w14 _ _ _ ⟨rfl,rfl,rfl,rfl⟩ h28
      have h29:=h28
      simp only [ca,na] at h29
      refine nil ?_
      refine Run.join (σ:=(made_Dice×Sample_)) (λ s_ L_ w_=>L_=[(0,v0),(1,v1),(5,u1),(6,.int .i64 s1.1),(8,(q1 6))]∧St e w_ [(false,.val (Rep.slice Sensor_.rep) v1 a1)] [(false,.box 163 made_Dice.rep v0 s_.1),(true,.box 93 Sample_.rep (q1 6) s_.2),(true,.slice 93 Sample_.rep u1 s1.2.2)]) hF (λ s6 _ w15 hI hF=>?_) (λ j5 hj5 hF=>?_)
      ·obtain ⟨rfl,h30⟩:=hI
       refine Run.reg (gm rfl (op (OpS.loadB h30 (.s .z) PA.z Get.id ty93 rfl rfl rfl (λ u5 h31=>?_))))
       refine op (OpS.lit (r:=Sample_.rep) (f:=true) h31 Tryz.underlying41 ti93 rfl rfl rfl rfl rfl (.cons rfl (V.at .z) .nil) rfl rfl (λ u6 w16 h32=>?_))
       obtain ⟨x3,e8,hF⟩:=bindP_use hF
       refine op (OpS.app (f':=true) h32 (.s (.s .z)) Tryz.underlying41 ti93 rfl rfl rfl rfl rfl rfl rfl (V.at .z) (.inr Sample_.pure) e8 (λ u7 w17 h33=>?_))
       refine ga rfl (nil (Run.endBlock (Run.reg (gm rfl (gb rfl (ga rfl ?_))))))
       obtain ⟨x4,e9,hF⟩:=letP_use hF
       refine RunL.name e9 ?_
       refine nil (Run.slim [(0,v0),(1,v1),(5,u7),(6,.int .i64 x4)] ⟨rfl,rfl,rfl,rfl,trivial⟩ ?_)
       exact hk1 (x4,s6.1,x3) _ _ ⟨u7,rfl,(h33.facts (.atm (.s (.s .z)) .nil)).picks (.cons (.s .z) (.cons .z .nil))⟩ hF
      refine Run.ite rfl hF (λ e10 hF=>?_) (λ e10 hF=>?_)
      ·refine sr (gm rfl ?_)
       obtain ⟨y4,e11,hF⟩:=bindP_use hF
       have h34:=h29.front (.cons .z .nil)
       refine op (OpS.callO h34 Tryz.func76 rfl rfl rfl rfl (vs:=[v0]) rfl (made_Dice_Byte_ok e11) rfl .nil ?_)
       rintro _ w18 _ _ _ ⟨rfl,rfl,rfl,rfl⟩ h35
       have h36:=h35
       simp only [ca,na] at h36
       refine op (OpS.fbox (o3:=2) h36 (.s .z) PA.z fa93_2 rfl rfl rfl rfl ?_)
       obtain ⟨d1,e12,hF⟩:=letP_use hF
       refine op (OpS.storeB (f':=true) h36 (.s .z) PA.a (Put.of (Put.fld Sample_.f2) e12) ty5 rfl rfl rfl V.int (.inl rfl) (λ w19 h37=>?_))
       refine nil (sr (gm rfl ?_))
       obtain ⟨y5,e13,hF⟩:=bindP_use hF
       have h38:=h37.front (.cons (.s .z) .nil)
       refine op (OpS.callO h38 Tryz.func54 rfl rfl rfl rfl (vs:=[v0,.int .i64 65536]) rfl (made_Dice_Next_ok e13) rfl .nil ?_)
       rintro _ w20 _ _ _ ⟨rfl,rfl,rfl,rfl⟩ h39
       have h40:=h39
       simp only [ca,na] at h40
       refine op (OpS.conv Tryz.underlying3 Tryz.underlying49 rfl rfl rfl ?_)
       refine op (OpS.fbox (o3:=3) h40 (.s .z) PA.z fa93_3 rfl rfl rfl rfl ?_)
       obtain ⟨d2,e14,hF⟩:=letP_use hF
       refine op (OpS.storeB (f':=true) h40 (.s .z) PA.a (Put.of (Put.fld Sample_.f3) e14) ty49 rfl rfl rfl V.int (.inl rfl) (λ w21 h41=>?_))
       refine nil (Run.reg (gm rfl ?_))
       obtain ⟨y6,e15,hF⟩:=bindP_use hF
       have h42:=h41.front (.cons (.s .z) .nil)
       refine op (OpS.callO h42 Tryz.func76 rfl rfl rfl rfl (vs:=[v0]) rfl (made_Dice_Byte_ok e15) rfl .nil ?_)
       rintro _ w22 _ _ _ ⟨rfl,rfl,rfl,rfl⟩ h43
       have h44:=h43
       simp only [ca,na] at h44
       refine op (OpS.fbox (o3:=0) h44 (.s .z) PA.z fa93_0 rfl rfl rfl rfl ?_)
       obtain ⟨d3,e16,hF⟩:=letP_use hF
       refine op (OpS.storeB (f':=true) h44 (.s .z) PA.a (Put.of (Put.fld Sample_.f0) e16) ty5 rfl rfl rfl V.int (.inl rfl) (λ w23 h45=>?_))
       refine nil (Run.slim [(0,v0),(1,v1),(5,u1),(6,.int .i64 s1.1),(8,(q1 6))] ⟨rfl,rfl,rfl,rfl,rfl,trivial⟩ ?_)
       exact hj5 (y6.2,d3) _ _ ⟨rfl,(h45.facts (.atm .z .nil)).picks (.cons (.s .z) (.cons .z (.cons .z .nil)))⟩ hF
      refine Run.skip (Run.slim [(0,v0),(1,v1),(5,u1),(6,.int .i64 s1.1),(8,(q1 6))] ⟨rfl,rfl,rfl,rfl,rfl,trivial⟩ ?_)
      exact hj5 (y3.2,s5.2) _ _ ⟨rfl,(h29.facts (.atm .z .nil)).picks (.cons .z (.cons .z (.cons .z .nil)))⟩ hF
     refine Run.ite rfl hF (λ e17 hF=>?_) (λ e17 hF=>?_)
     ·refine Run.reg (gm rfl (op (OpS.loadB h25 (.s .z) PA.z Get.id ty74 rfl rfl rfl (λ u8 h46=>?_))))
      obtain ⟨y7,e18,hF⟩:=bindP_use hF
      have h47:=h46.front (.cons .z .nil)
      refine op (OpS.callO h47 Tryz.func75 rfl rfl rfl rfl (vs:=[v0,u8]) rfl (made_Dice_near_ok e18) rfl (.cons (f:=false) (V.at .z) .nil) ?_)
      rintro _ w24 _ _ _ ⟨rfl,rfl,rfl,rfl⟩ h48
      have h49:=h48
      simp only [ca,na] at h49
      refine op (OpS.fbox (o3:=2) h49 (.s (.s .z)) PA.z fa93_2 rfl rfl rfl rfl ?_)
      obtain ⟨d4,e19,hF⟩:=letP_use hF
      refine op (OpS.storeB (f':=true) h49 (.s (.s .z)) PA.a (Put.of (Put.fld Sample_.f2) e19) ty5 rfl rfl rfl V.int (.inl rfl) (λ w25 h50=>?_))
      refine nil (Run.slim [(0,v0),(1,v1),(5,u1),(6,.int .i64 s1.1),(8,(q1 6))] ⟨rfl,rfl,rfl,rfl,rfl,trivial⟩ ?_)
      exact hj4 (y7.2,d4) _ _ ⟨rfl,(h50.facts (.atm (.s .z) .nil)).picks (.cons (.s .z) (.cons .z (.cons (.s .z) .nil)))⟩ hF
     refine Run.skip (Run.slim [(0,v0),(1,v1),(5,u1),(6,.int .i64 s1.1),(8,(q1 6))] ⟨rfl,rfl,rfl,rfl,rfl,trivial⟩ ?_)
     exact hj4 (s3.1,s3.2) _ _ ⟨rfl,(h25.facts (.atm .z .nil)).picks (.cons .z (.cons (.s .z) (.cons (.s .z) .nil)))⟩ hF
    refine RunL.caseb hF (λ e20 hF=>?_) (λ e20 hF=>?_)
    ·refine op (OpS.fbox (o3:=6) h24 (.s .z) PA.z fa74_5 rfl rfl rfl rfl ?_)
     refine op (OpS.loadBb h24 (.s .z) PA.a (Get.fld Sensor_.f5) ty4 rfl rfl rfl ?_)
     refine op (OpS.not rfl rfl rfl ?_)
     refine gk rfl (nil (Run.slim [(0,v0),(1,v1),(5,u1),(6,.int .i64 s1.1),(7,u4),(8,(q1 6)),(46,.bool (!x1.Discrete))] ⟨rfl,rfl,rfl,rfl,rfl,rfl,rfl,trivial⟩ ?_))
     exact hj3 (!x1.Discrete) _ _ ⟨rfl,(h24.facts (.atm .z .nil)).picks (.cons .z (.cons .z (.cons .z (.cons .z .nil))))⟩ hF
    refine gp rfl (gp rfl (gp rfl (gk rfl (nil (Run.slim [(0,v0),(1,v1),(5,u1),(6,.int .i64 s1.1),(7,u4),(8,(q1 6)),(46,.bool false)] ⟨rfl,rfl,rfl,rfl,rfl,rfl,rfl,trivial⟩ ?_)))))
    exact hj3 (false) _ _ ⟨rfl,(h24.facts (.atm .z .nil)).picks (.cons .z (.cons .z (.cons .z (.cons .z .nil))))⟩ hF
   refine Run.ite rfl hF (λ e21 hF=>?_) (λ e21 hF=>?_)
   ·obtain ⟨y8,e22,hF⟩:=bindP_use hF
    refine Run.drawV (Ωs:=[(true,.box 93 Sample_.rep (q1 6) (⟨x1.Number,!y2.1,0,0⟩:Sample_)),(true,.slice 93 Sample_.rep u1 s1.2.2)]) [.k 33 v0,⟨some 34,some (.int .i64 y8.1),λ _=>[],λ ds_ u_=>[(false,.box 163 made_Dice.rep v0 y8.2)],[0],[],none⟩,.k 35 (.int .u16 (IntKind.u16.wrap y8.1)),.kr 36 (padd u4 23) [1],.kr 37 (.int .u16 x1.States) [1]] [[],[0],[1],[],[3]] [[(false,.box 163 made_Dice.rep v0 y2.2)],[(false,.box 74 Sensor_.rep u4 x1)]] [1,2,3,4,5,6] Try_mixed rfl rfl rfl h23 (.cons ?_ (.cons ?_ (.cons ?_ (.cons ?_ (.cons ?_ .nil))))) (λ q2 w hq2 h=>?_)
    ·intro q2 w Γx Ωx h
     refine OpS.mv rfl rfl rfl ?_
     exact du h
    ·intro q2 w Γx Ωx h
     have h54:=h.front (.cons .z .nil)
     refine OpS.callO h54 Tryz.func54 rfl rfl rfl rfl (vs:=[v0,.int .i64 32768]) rfl (made_Dice_Next_ok e22) rfl .nil ?_
     rintro _ w27 _ _ _ ⟨rfl,rfl,rfl,rfl⟩ h55
     have h56:=h55
     simp only [ca,na] at h56
     exact ⟨undef,rfl,trivial,h56⟩
    ·intro q2 w Γx Ωx h
     refine OpS.conv Tryz.underlying3 Tryz.underlying49 rfl rfl rfl ?_
     exact du h
    ·intro q2 w Γx Ωx h
     refine OpS.fbox (o3:=23) h .z PA.z fa74_10 rfl rfl rfl rfl ?_
     exact du h
    ·intro q2 w Γx Ωx h
     refine OpS.loadBi h .z PA.a (Get.fld Sensor_.f10) ty49 rfl rfl rfl ?_
     exact du h
    have h57:=h
    refine gb rfl (op (OpS.fbox (o3:=3) h57 (.s (.s .z)) PA.z fa93_3 rfl rfl rfl rfl ?_))
    refine op (OpS.storeB (f':=true) h57 (.s (.s .z)) PA.a (Put.fld Sample_.f3) ty49 rfl rfl rfl V.int (.inl rfl) (λ w28 h58=>?_))
    refine nil (Run.slim [(0,v0),(1,v1),(5,u1),(6,.int .i64 s1.1),(7,u4),(8,(q1 6))] ⟨rfl,rfl,rfl,rfl,rfl,rfl,trivial⟩ ?_)
    exact hj2 (y8.2,(⟨x1.Number,!y2.1,0,(bAnd .u16 (IntKind.u16.wrap y8.1) x1.States)⟩:Sample_)) _ _ ⟨rfl,(h58.facts (.atm .z .nil)).picks (.cons (.s (.s .z)) (.cons (.s .z) (.cons .z (.cons .z .nil))))⟩ hF
   refine Run.skip (Run.slim [(0,v0),(1,v1),(5,u1),(6,.int .i64 s1.1),(7,u4),(8,(q1 6))] ⟨rfl,rfl,rfl,rfl,rfl,rfl,trivial⟩ ?_)
   exact hj2 (y2.2,(⟨x1.Number,!y2.1,0,0⟩:Sample_)) _ _ ⟨rfl,(h23.facts (.atm .z .nil)).picks (.cons .z (.cons .z (.cons .z (.cons .z .nil))))⟩ hF
  refine RunL.caseb hF (λ e23 hF=>?_) (λ e23 hF=>?_)
  ·refine op (OpS.fbox (o3:=6) h22 (.s .z) PA.z fa74_5 rfl rfl rfl rfl ?_)
   refine op (OpS.loadBb h22 (.s .z) PA.a (Get.fld Sensor_.f5) ty4 rfl rfl rfl ?_)
   refine gk rfl (nil (Run.slim [(0,v0),(1,v1),(5,u1),(6,.int .i64 s1.1),(7,u4),(8,(q1 6)),(32,.bool x1.Discrete)] ⟨rfl,rfl,rfl,rfl,rfl,rfl,rfl,trivial⟩ ?_))
   exact hj1 (x1.Discrete) _ _ ⟨rfl,(h22.facts (.atm (.s (.s (.s .z))) .nil)).picks (.cons (.s (.s .z)) (.cons (.s .z) (.cons .z (.cons .z .nil))))⟩ hF
  refine gp rfl (gp rfl (gk rfl (nil (Run.slim [(0,v0),(1,v1),(5,u1),(6,.int .i64 s1.1),(7,u4),(8,(q1 6)),(32,.bool false)] ⟨rfl,rfl,rfl,rfl,rfl,rfl,rfl,trivial⟩ ?_))))
  exact hj1 (false) _ _ ⟨rfl,(h22.facts (.atm (.s (.s (.s .z))) .nil)).picks (.cons (.s (.s .z)) (.cons (.s .z) (.cons .z (.cons .z .nil))))⟩ hF
 refine Run.exit rfl ?_
 refine sr (gm rfl (ga rfl (nil (Run.retP rfl (.tmp rfl .nil) ?_))))
 cases hF
 exact Post.mk' ⟨u1,rfl,rfl,rfl,rfl⟩ (h2.picks (.cons (.s .z) (.cons .z .nil))) .nil
theorem slices_Index_uint8_uint8_ok {fuel:Nat} {a0:List Int} {a1:Int} {y:Int} (hF:slices_Index_uint8_uint8 fuel a0 a1=some y) {w:World} {v0:Value} :
  Spec Tryz.prog 105 [v0,.int .u8 a1].toArray w [(false,.val (Rep.slice (Rep.int .u8)) v0 a0)] [] (λ v Γr Ωr Ωo=>v=.int .i64 y∧Γr=[]∧Ωr=[]∧Ωo=[]):=by
 refine Spec.of (L:=[(0,v0),(1,.int .u8 a1)]) Tryz.func105 rfl ⟨rfl,rfl,trivial⟩ rfl (λ e h=>?_)
 unfold slices_Index_uint8_uint8 at hF
 refine sr (ga rfl (nil (Run.seq (sr (gm rfl (op (OpS.len h Tryz.underlying24 rfl rfl rfl (V.at .z) ?_)))))))
 refine gm rfl (nil (Run.block (Run.slim [(0,v0),(1,.int .u8 a1),(7,.int .i64 (a0.length:Int)),(8,.int .i64 0)] ⟨rfl,rfl,rfl,rfl,trivial⟩ ?_)))
 refine Run.loopP (σ:=Int) (λ s_ L_ w_=>L_=[(0,v0),(1,.int .u8 a1),(7,.int .i64 (a0.length:Int)),(8,.int .i64 s_)]∧St e w_ [(false,.val (Rep.slice (Rep.int .u8)) v0 a0)] []) hF ⟨rfl,(h.facts (.atm .z .nil)).picks .nil⟩ (λ k1 hk1 s1 _ w1 hI hF=>?_)
 obtain ⟨rfl,h1⟩:=hI
 refine sr (gb rfl (nil (Run.seq ?_)))
 refine Run.ite rfl hF (λ e1 hF=>?_) (λ e1 hF=>?_)
 ·refine Run.skip (Run.seq (Run.block (sr (gm rfl (ga rfl (nil (sr (gm rfl (gm rfl (gm rfl ?_))))))))))
  obtain ⟨x1,e2,hF⟩:=bindP_use hF
  refine op (OpS.iptr h1 Tryz.underlying24 ty5 rfl rfl rfl rfl (V.at .z) e2 (λ u1 h2=>?_))
  refine op (OpS.loadi h2 ty5 rfl rfl rfl .z ?_)
  refine gb rfl (nil ?_)
  refine Run.ite rfl hF (λ e3 hF=>?_) (λ e3 hF=>?_)
  ·refine sr (gm rfl (ga rfl (nil (Run.retP rfl (.tmp rfl .nil) ?_))))
   cases hF
   exact Post.mk' ⟨rfl,rfl,rfl,rfl⟩ (h2.picks .nil) .nil
  refine Run.skip (Run.endBlock (Run.reg (gb rfl (gm rfl (nil (Run.slim [(0,v0),(1,.int .u8 a1),(7,.int .i64 (a0.length:Int)),(8,.int .i64 (IntKind.i64.wrap (s1+1)))] ⟨rfl,rfl,rfl,rfl,trivial⟩ ?_))))))
  exact hk1 ((IntKind.i64.wrap (s1+1))) _ _ ⟨rfl,(h2.facts (.atm (.s .z) .nil)).picks .nil⟩ hF
 refine Run.exit rfl ?_
 refine sr (ga rfl (nil (Run.retP rfl (.tmp rfl .nil) ?_)))
 cases hF
 exact Post.mk' ⟨rfl,rfl,rfl,rfl⟩ (h1.picks .nil) .nil
set_option maxRecDepth 20000 in
theorem event_Index_ok {fuel:Nat} {a0:Event_} {y:Int×Bool×Bool} (hF:event_Index fuel a0=some y) {w:World} {v0:Value} :
  Spec Tryz.prog 38 [v0].toArray w [(false,.val Event_.rep v0 a0),GqD] [] (λ v Γr Ωr Ωo=>v=.tuple #[.int .i64 y.1,.bool y.2.1,.bool y.2.2]∧Γr=[]∧Ωr=[]∧Ωo=[]):=by
 refine Spec.of (L:=[(0,v0)]) Tryz.func38 rfl ⟨rfl,trivial⟩ rfl (λ e h=>?_)
 unfold event_Index at hF
 refine sr (op (OpS.boxF h rfl rfl rfl (V.at .z) (λ u1 w1 h1=>?_)))
 refine ga rfl (ga rfl (ga rfl (nil (Run.seq (Run.block (sr (op (OpS.fbox (o3:=5) h1 .z PA.z fa55_5 rfl rfl rfl rfl ?_))))))))
 refine op (OpS.loadBi h1 .z PA.a (Get.fld Event_.f5) ty5 rfl rfl rfl ?_)
 refine gb rfl (ga rfl ?_)
 obtain ⟨x1,e1,hF⟩:=letP_use hF
 refine RunL.nameb e1 ?_
 refine nil ?_
 refine Run.ite rfl hF (λ e2 hF=>?_) (λ e2 hF=>?_)
 ·refine Run.seq ?_
  obtain ⟨x2,e3,hF⟩:=bindP_use hF
  obtain ⟨e4,hF⟩:=chk_use hF
  refine Run.drawV (Ωs:=[]) [.f 10 (λ u_=>[(false,.val (Rep.slice (Rep.int .u8)) u_ ([0,2,4,7,9,11]))]),.kr 11 (padd u1 7) [0],.kr 12 (padd u1 (7+(0:Int).toNat*(Rep.int .u8).n)) [0],.kr 13 (.int .u8 x2) [0],.k 14 (.int .u8 (IntKind.u8.wrap (x2-80)))] [[],[],[1],[2],[3]] [[(false,.box 55 Event_.rep u1 a0)]] [0,1,2,3,4,5] Try_mixed rfl rfl rfl h1 (.cons ?_ (.cons ?_ (.cons ?_ (.cons ?_ (.cons ?_ .nil))))) (λ q1 w hq1 h=>?_)
  ·intro q1 w Γx Ωx h
   refine OpS.sarr h Tryz.underlying70 ty5 rfl rfl rfl rfl (.s .z) (λ u h3=>?_)
   exact ⟨u,rfl,trivial,h3⟩
  ·intro q1 w Γx Ωx h
   refine OpS.fbox (o3:=7) h .z PA.z fa55_7 rfl rfl rfl rfl ?_
   exact du h
  ·intro q1 w Γx Ωx h
   refine OpS.ibox h .z PA.a Tryz.underlying53 ty5 (Nat.eq_of_beq_eq_true e4) rfl rfl rfl rfl e3 ?_
   exact du h
  ·intro q1 w Γx Ωx h
   refine OpS.loadBi h .z PA.a (Get.comp (Get.fld Event_.f7) (Get.arr e3)) ty5 rfl rfl rfl ?_
   exact du h
  ·intro q1 w Γx Ωx h
   refine OpS.bin rfl rfl rfl rfl rfl ?_
   exact du h
  have h4:=h
  obtain ⟨y1,e5,hF⟩:=bindP_use hF
  refine op (OpS.callP h4 Tryz.func105 rfl rfl rfl rfl (vs:=[(q1 0),.int .u8 (IntKind.u8.wrap (x2-80))]) rfl (slices_Index_uint8_uint8_ok e5) (.cons (f:=false) (V.at .z) .nil) ?_)
  rintro _ w2 _ _ _ ⟨rfl,rfl,rfl,rfl⟩ h5
  have h6:=h5 rfl rfl
  simp only [ca,na] at h6
  refine ga rfl (nil (sr (gm rfl (gb rfl (nil ?_)))))
  refine Run.ite rfl hF (λ e6 hF=>?_) (λ e6 hF=>?_)
  ·refine sr (gm rfl (ga rfl (ga rfl (ga rfl (nil (Run.retP rfl (.tmp rfl (.tmp rfl (.tmp rfl .nil))) ?_))))))
   cases hF
   exact Post.mk' ⟨rfl,rfl,rfl,rfl⟩ (h6.picks .nil) .nil
  refine Run.skip (Run.endBlock (sr (ga rfl (ga rfl (ga rfl (nil (Run.retP rfl (.tmp rfl (.tmp rfl (.tmp rfl .nil))) ?_)))))))
  cases hF
  exact Post.mk' ⟨rfl,rfl,rfl,rfl⟩ (h6.picks .nil) .nil
 refine sr (op (OpS.fbox (o3:=5) h1 .z PA.z fa55_5 rfl rfl rfl rfl ?_))
 refine op (OpS.loadBi h1 .z PA.a (Get.fld Event_.f5) ty5 rfl rfl rfl ?_)
 refine gb rfl (gm rfl ?_)
 refine RunL.join (σ:=Bool) (λ s_ L_ w_=>L_=[(1,u1),(19,.bool s_)]∧St e w_ [GqD] [(false,.box 55 Event_.rep u1 a0)]) hF (λ s1 _ w3 hI hF=>?_) (λ j1 hj1 hF=>?_)
 ·obtain ⟨rfl,h7⟩:=hI
  refine Run.ite rfl hF (λ e7 hF=>?_) (λ e7 hF=>?_)
  ·refine sr (op (OpS.fbox (o3:=7) h7 .z PA.z fa55_7 rfl rfl rfl rfl ?_))
   obtain ⟨x3,e8,hF⟩:=bindP_use hF
   obtain ⟨e9,hF⟩:=chk_use hF
   refine op (OpS.ibox h7 .z PA.a Tryz.underlying53 ty5 (Nat.eq_of_beq_eq_true e9) rfl rfl rfl rfl e8 ?_)
   refine op (OpS.loadBi h7 .z PA.a (Get.comp (Get.fld Event_.f7) (Get.arr e8)) ty5 rfl rfl rfl ?_)
   refine op (OpS.conv Tryz.underlying5 Tryz.underlying3 rfl rfl rfl ?_)
   refine ga rfl (ga rfl (ga rfl (nil (Run.retP rfl (.tmp rfl (.tmp rfl (.tmp rfl .nil))) ?_))))
   cases hF
   exact Post.mk' ⟨rfl,rfl,rfl,rfl⟩ (h7.picks .nil) .nil
  refine Run.skip (Run.endBlock (sr (ga rfl (ga rfl (ga rfl (nil (Run.retP rfl (.tmp rfl (.tmp rfl (.tmp rfl .nil))) ?_)))))))
  cases hF
  exact Post.mk' ⟨rfl,rfl,rfl,rfl⟩ (h7.picks .nil) .nil
 refine RunL.caseb hF (λ e10 hF=>?_) (λ e10 hF=>?_)
 ·refine op (OpS.fbox (o3:=7) h1 .z PA.z fa55_7 rfl rfl rfl rfl ?_)
  obtain ⟨x4,e11,hF⟩:=bindP_use hF
  obtain ⟨e12,hF⟩:=chk_use hF
  refine op (OpS.ibox h1 .z PA.a Tryz.underlying53 ty5 (Nat.eq_of_beq_eq_true e12) rfl rfl rfl rfl e11 ?_)
  refine op (OpS.loadBi h1 .z PA.a (Get.comp (Get.fld Event_.f7) (Get.arr e11)) ty5 rfl rfl rfl ?_)
  refine gb rfl (gk rfl (ga rfl ?_))
  obtain ⟨x5,e13,hF⟩:=letP_use hF
  refine RunL.nameb e13 ?_
  refine nil (Run.slim [(1,u1),(19,.bool x5)] ⟨rfl,rfl,trivial⟩ ?_)
  exact hj1 (x5) _ _ ⟨rfl,(h1.facts (.atm (.s .z) .nil)).picks (.cons .z .nil)⟩ hF
 refine gp rfl (gp rfl (gp rfl (gp rfl (gk rfl (ga rfl (nil (Run.slim [(1,u1),(19,.bool false)] ⟨rfl,rfl,trivial⟩ ?_)))))))
 exact hj1 (false) _ _ ⟨rfl,(h1.facts (.atm (.s .z) .nil)).picks (.cons .z .nil)⟩ hF
theorem monitor_bits_ok {fuel:Nat} {a0:Sensor_} {y:Int} (hF:monitor_bits fuel a0=some y) {w:World} {v0:Value} :
  Spec Tryz.prog 93 [v0].toArray w [(false,.val Sensor_.rep v0 a0)] [] (λ v Γr Ωr Ωo=>v=.int .u16 y∧Γr=[]∧Ωr=[]∧Ωo=[]):=by
 refine Spec.of (L:=[(0,v0)]) Tryz.func93 rfl ⟨rfl,trivial⟩ rfl (λ e h=>?_)
 unfold monitor_bits at hF
 refine sr (op (OpS.boxF h rfl rfl rfl (V.at .z) (λ u1 w1 h1=>?_)))
 refine ga rfl (nil (sr (op (OpS.fbox (o3:=23) h1 .z PA.z fa74_10 rfl rfl rfl rfl ?_))))
 refine op (OpS.loadBi h1 .z PA.a (Get.fld Sensor_.f10) ty49 rfl rfl rfl ?_)
 refine op (OpS.fbox (o3:=14) h1 .z PA.z fa74_7 rfl rfl rfl rfl ?_)
 refine op (OpS.fbox (o3:=14) h1 .z PA.a fa72_0 rfl rfl rfl rfl ?_)
 refine op (OpS.loadBi h1 .z PA.a (Get.comp (Get.fld Sensor_.f7) (Get.fld Thresholds_.f0)) ty5 rfl rfl rfl ?_)
 refine op (OpS.conv Tryz.underlying5 Tryz.underlying49 rfl rfl rfl ?_)
 refine gb rfl (ga rfl ?_)
 obtain ⟨x1,e1,hF⟩:=letP_use hF
 refine RunL.name e1 ?_
 refine nil (Run.retP rfl (.tmp rfl .nil) ?_)
 cases hF
 exact Post.mk' ⟨rfl,rfl,rfl,rfl⟩ (h1.picks .nil) .nil
theorem monitor_Recover_1_2_ok {fuel:Nat} {a0:Sensor_} {a1:Event_} {y:Bool} (hF:monitor_Recover_1_2 fuel a0 a1=some y) {w:World} {v0 v1:Value} :
  Spec Tryz.prog 92 [v0,v1].toArray w [(false,.val Sensor_.rep v0 a0),(false,.ptr Event_.rep v1 a1)] [] (λ v Γr Ωr Ωo=>v=.bool y∧Γr=[]∧Ωr=[]∧Ωo=[]):=by
 refine Spec.of (L:=[(0,v0),(1,v1)]) Tryz.func92 rfl ⟨rfl,rfl,trivial⟩ rfl (λ e h=>?_)
 unfold monitor_Recover_1_2 at hF
 refine sr (op (OpS.boxF h rfl rfl rfl (V.at .z) (λ u1 w1 h1=>?_)))
 refine ga rfl (nil (sr (op (OpS.fbox (o3:=0) h1 .z PA.z fa74_0 rfl rfl rfl rfl ?_))))
 refine op (OpS.loadBi h1 .z PA.a (Get.fld Sensor_.f0) ty5 rfl rfl rfl ?_)
 refine op (OpS.fptr h1 fa55_4 Event_.f4 rfl rfl rfl (.s .z) (λ u2 h2=>?_))
 refine op (OpS.loadi h2 ty5 rfl rfl rfl .z ?_)
 refine gb rfl (ga rfl ?_)
 obtain ⟨x1,e1,hF⟩:=letP_use hF
 refine RunL.nameb e1 ?_
 refine nil (Run.retP rfl (.tmp rfl .nil) ?_)
 cases hF
 exact Post.mk' ⟨rfl,rfl,rfl,rfl⟩ (h2.picks .nil) .nil
theorem slices_IndexFunc_api_Sensor_api_Sensor_monitor_Recover_1_ok {fuel:Nat} {a0:List Sensor_} {a1_0:Event_} {y:Int} (hF:slices_IndexFunc_api_Sensor_api_Sensor_monitor_Recover_1 fuel a0 a1_0=some y) {w:World} {v0 v1_0:Value} :
  Spec Tryz.prog 91 [v0,.func (.func 92) #[] #[v1_0]].toArray w [(false,.val (Rep.slice Sensor_.rep) v0 a0),(false,.ptr Event_.rep v1_0 a1_0)] [] (λ v Γr Ωr Ωo=>v=.int .i64 y∧Γr=[]∧Ωr=[]∧Ωo=[]):=by
 refine Spec.of (L:=[(0,v0),(1,.func (.func 92) #[] #[v1_0])]) Tryz.func91 rfl ⟨rfl,rfl,trivial⟩ rfl (λ e h=>?_)
 unfold slices_IndexFunc_api_Sensor_api_Sensor_monitor_Recover_1 at hF
 refine sr (ga rfl (nil (Run.seq (sr (gm rfl (op (OpS.len h Tryz.underlying27 rfl rfl rfl (V.at .z) ?_)))))))
 refine gm rfl (nil (Run.block (Run.slim [(0,v0),(1,.func (.func 92) #[] #[v1_0]),(7,.int .i64 (a0.length:Int)),(8,.int .i64 0)] ⟨rfl,rfl,rfl,rfl,trivial⟩ ?_)))
 refine Run.loopP (σ:=Int) (λ s_ L_ w_=>L_=[(0,v0),(1,.func (.func 92) #[] #[v1_0]),(7,.int .i64 (a0.length:Int)),(8,.int .i64 s_)]∧St e w_ [(false,.val (Rep.slice Sensor_.rep) v0 a0),(false,.ptr Event_.rep v1_0 a1_0)] []) hF ⟨rfl,(h.facts (.atm .z (.atm (.s .z) .nil))).picks .nil⟩ (λ k1 hk1 s1 _ w1 hI hF=>?_)
 obtain ⟨rfl,h1⟩:=hI
 refine sr (gb rfl (nil (Run.seq ?_)))
 refine Run.ite rfl hF (λ e1 hF=>?_) (λ e1 hF=>?_)
 ·refine Run.skip (Run.seq (Run.block (sr (gm rfl (ga rfl (nil (sr (gm rfl (gm rfl (gm rfl ?_))))))))))
  obtain ⟨x1,e2,hF⟩:=bindP_use hF
  refine op (OpS.iptr h1 Tryz.underlying27 ty74 rfl rfl rfl rfl (V.at .z) e2 (λ u1 h2=>?_))
  refine op (OpS.load h2 ty74 rfl rfl rfl .z (λ u2 h3=>?_))
  obtain ⟨y1,e3,hF⟩:=bindP_use hF
  refine op (OpS.callPF (fl:=[]) (cl:=[v1_0]) h3 Tryz.func92 rfl rfl rfl rfl rfl (vs:=[u2]) rfl (monitor_Recover_1_2_ok e3) (.cons (f:=false) (V.at .z) (.ptr (.s (.s (.s .z))) .nil)) ?_)
  rintro _ w2 _ _ _ ⟨rfl,rfl,rfl,rfl⟩ h4
  have h5:=h4 rfl rfl
  simp only [ca,na] at h5
  refine nil ?_
  refine Run.ite rfl hF (λ e4 hF=>?_) (λ e4 hF=>?_)
  ·refine sr (gm rfl (ga rfl (nil (Run.retP rfl (.tmp rfl .nil) ?_))))
   cases hF
   exact Post.mk' ⟨rfl,rfl,rfl,rfl⟩ (h5.picks .nil) .nil
  refine Run.skip (Run.endBlock (Run.reg (gb rfl (gm rfl (nil (Run.slim [(0,v0),(1,.func (.func 92) #[] #[v1_0]),(7,.int .i64 (a0.length:Int)),(8,.int .i64 (IntKind.i64.wrap (s1+1)))] ⟨rfl,rfl,rfl,rfl,trivial⟩ ?_))))))
  exact hk1 ((IntKind.i64.wrap (s1+1))) _ _ ⟨rfl,(h5.facts (.atm (.s (.s .z)) (.atm (.s (.s (.s .z))) .nil))).picks .nil⟩ hF
 refine Run.exit rfl ?_
 refine sr (ga rfl (nil (Run.retP rfl (.tmp rfl .nil) ?_)))
 cases hF
 exact Post.mk' ⟨rfl,rfl,rfl,rfl⟩ (h1.picks .nil) .nil
set_option maxHeartbeats 8000000 in set_option maxRecDepth 20000 in
theorem monitor_Recover_ok {fuel:Nat} {a0:List Sensor_} {a1:List Event_} {y:(List Int)×Int} (hF:monitor_Recover fuel a0 a1=some y) {w:World} {v0 v1:Value} :
  Spec Tryz.prog 27 [v0,v1].toArray w [(false,.val (Rep.slice Sensor_.rep) v0 a0),(false,.val (Rep.slice Event_.rep) v1 a1),GqD] [] (λ v Γr Ωr Ωo=>∃ u0:Value,v=.tuple #[u0,.int .i64 y.2]∧Γr=[]∧Ωr=[(true,(.slice 49 (Rep.int .u16) u0 y.1))]∧Ωo=[]):=by
 refine Spec.of (L:=[(0,v0),(1,v1)]) Tryz.func27 rfl ⟨rfl,rfl,trivial⟩ rfl (λ e h=>?_)
 unfold monitor_Recover at hF
 refine sr (ga rfl (ga rfl (nil (Run.seq (sr (gm rfl ?_))))))
 obtain ⟨y1,e1,hF⟩:=bindP_use hF
 refine op (OpS.callP h Tryz.func90 rfl rfl rfl rfl (vs:=[v0]) rfl (monitor_check_ok e1) (.cons (f:=false) (V.at .z) .nil) ?_)
 rintro _ w1 _ _ _ ⟨rfl,rfl,rfl,rfl⟩ h1
 have h2:=h1 rfl rfl
 simp only [ca,na] at h2
 refine ga rfl (nil (sr (gm rfl (gb rfl (nil ?_)))))
 refine Run.ite rfl hF (λ e2 hF=>?_) (λ e2 hF=>?_)
 ·refine sr (gm rfl (ga rfl (ga rfl (nil ?_))))
  have h3:=St.nil 49 (Rep.int .u16) h2
  refine Run.retP rfl (.tmp rfl (.tmp rfl .nil)) ?_
  cases hF
  exact Post.mk' ⟨(.slice none 0 0),rfl,rfl,rfl,rfl⟩ (h3.picks (.cons .z .nil)) .nil
 refine Run.skip (sr (gm rfl (op (OpS.len h2 Tryz.underlying27 rfl rfl rfl (V.at .z) ?_))))
 obtain ⟨x1,e3,hF⟩:=bindP_use hF
 refine op (OpS.make h2 Tryz.underlying60 ti49 rfl rfl (Zr.int .u16 0) rfl rfl rfl rfl e3 (by simp) (mk_fits e3) rfl (λ u1 w2 h4=>?_))
 refine ga rfl (nil (Run.seq (sr (gm rfl (op (OpS.len h4 Tryz.underlying40 rfl rfl rfl (V.at (.s .z)) ?_))))))
 refine gm rfl (nil (Run.block (Run.slim [(0,v0),(7,u1),(22,v1),(23,.int .i64 (a1.length:Int)),(24,.int .i64 0)] ⟨rfl,rfl,rfl,rfl,rfl,trivial⟩ ?_)))
 refine Run.loopP (σ:=(Int×(List Int))) (λ s_ L_ w_=>L_=[(0,v0),(7,u1),(22,v1),(23,.int .i64 (a1.length:Int)),(24,.int .i64 s_.1)]∧St e w_ [(false,.val (Rep.slice Sensor_.rep) v0 a0),(false,.val (Rep.slice Event_.rep) v1 a1),GqD] [(true,.slice 49 (Rep.int .u16) u1 s_.2)]) hF ⟨rfl,(h4.facts (.atm .z (.atm (.s .z) (.atm (.s (.s .z)) .nil)))).picks (.cons .z .nil)⟩ (λ k1 hk1 s1 _ w3 hI hF=>?_)
 obtain ⟨rfl,h5⟩:=hI
 refine sr (gb rfl (nil (Run.seq ?_)))
 refine Run.ite rfl hF (λ e4 hF=>?_) (λ e4 hF=>?_)
 ·refine Run.skip (Run.seq (Run.block (sr ?_)))
  obtain ⟨x2,e5,hF⟩:=bindP_use hF
  refine op (OpS.iptr h5 Tryz.underlying40 ty55 rfl rfl rfl rfl (V.at (.s .z)) e5 (λ u2 h6=>?_))
  refine op (OpS.load h6 ty55 rfl rfl rfl .z (λ u3 h7=>?_))
  refine op (OpS.alloc h7 ti55 Event_.zr rfl rfl (λ u4 w4 h8=>?_))
  have h9:=(h8.pick .z).weak
  refine op (OpS.storeB (f':=false) h9 .z PA.z Put.id ty55 rfl rfl rfl (V.at .z) (.inr rfl) (λ w5 h10=>?_))
  refine nil (sr (op (OpS.loadB h10 .z PA.z Get.id ty55 rfl rfl rfl (λ u5 h11=>?_))))
  obtain ⟨y2,e6,hF⟩:=bindP_use hF
  refine op (OpS.callP h11 Tryz.func38 rfl rfl rfl rfl (vs:=[u5]) rfl (event_Index_ok e6) (.cons (f:=false) (V.at .z) (.ptr (.s (.s (.s (.s (.s .z))))) .nil)) ?_)
  rintro _ w6 _ _ _ ⟨rfl,rfl,rfl,rfl⟩ h12
  have h13:=h12 rfl rfl
  simp only [ca,na] at h13
  refine gm rfl (op (OpS.ext rfl rfl rfl rfl ?_))
  refine op (OpS.ext rfl rfl rfl rfl ?_)
  refine op (OpS.ext rfl rfl rfl rfl ?_)
  refine ga rfl (ga rfl (ga rfl (nil (sr (gm rfl (op (OpS.mkf (fl:=[]) (cl:=[u4]) rfl rfl rfl rfl ?_)))))))
  obtain ⟨y3,e7,hF⟩:=bindP_use hF
  refine op (OpS.callP h13 Tryz.func91 rfl rfl rfl rfl (vs:=[v0,.func (.func 92) #[] #[u4]]) rfl (slices_IndexFunc_api_Sensor_api_Sensor_monitor_Recover_1_ok e7) (.cons (f:=false) (V.at (.s (.s (.s .z)))) (.box .z .nil)) ?_)
  rintro _ w7 _ _ _ ⟨rfl,rfl,rfl,rfl⟩ h14
  have h15:=h14 rfl rfl
  simp only [ca,na] at h15
  refine ga rfl (nil (Run.seq (Run.seq ?_)))
  refine Run.join (σ:=Bool) (λ s_ L_ w_=>L_=[(0,v0),(7,u1),(9,u4),(10,.int .i64 y2.1),(13,.int .i64 y3),(22,v1),(23,.int .i64 (a1.length:Int)),(24,.int .i64 s1.1),(72,.bool s_)]∧St e w_ [(false,.val (Rep.slice Sensor_.rep) v0 a0),(false,.val (Rep.slice Event_.rep) v1 a1),GqD] [(false,.box 55 Event_.rep u4 x2),(true,.slice 49 (Rep.int .u16) u1 s1.2)]) hF (λ s2 _ w8 hI hF=>?_) (λ j1 hj1 hF=>?_)
  ·obtain ⟨rfl,h16⟩:=hI
   refine Run.ite rfl hF (λ e8 hF=>?_) (λ e8 hF=>?_)
   ·refine Run.exit rfl ?_
    refine Run.reg (gb rfl (gm rfl (nil (Run.slim [(0,v0),(7,u1),(22,v1),(23,.int .i64 (a1.length:Int)),(24,.int .i64 (IntKind.i64.wrap (s1.1+1)))] ⟨rfl,rfl,rfl,rfl,rfl,trivial⟩ ?_))))
    exact hk1 ((IntKind.i64.wrap (s1.1+1)),s1.2) _ _ ⟨rfl,(h16.facts (.atm .z (.atm (.s .z) (.atm (.s (.s .z)) .nil)))).picks (.cons (.s .z) .nil)⟩ hF
   refine Run.skip (Run.seq ?_)
   have h17:=h16.picks (.cons (.s .z) (.cons .z .nil))
   obtain ⟨x3,e9,hF⟩:=bindP_use hF
   obtain ⟨e10,hF⟩:=chk_use hF
   refine Run.drawV (Ωs:=[(false,.box 55 Event_.rep u4 x2)]) [.k 73 u1,.k 74 (.int .i64 y3),.kr 75 (padd (sp u1) ((y3:Int).toNat*(Rep.int .u16).n)) [0],.kr 76 (.int .u16 x3) [0],.k 77 (.int .i64 y2.1),.k 78 (.int .u16 (bShl .u16 1 y2.1))] [[],[],[0,1],[2],[],[4]] [[(true,.slice 49 (Rep.int .u16) u1 s1.2)]] [0,1,2,3,4,5,6] Try_mixed rfl rfl rfl h17 (.cons ?_ (.cons ?_ (.cons ?_ (.cons ?_ (.cons ?_ (.cons ?_ .nil)))))) (λ q1 w hq1 h=>?_)
   ·intro q1 w Γx Ωx h
    refine OpS.mv rfl rfl rfl ?_
    exact du h
   ·intro q1 w Γx Ωx h
    refine OpS.mv rfl rfl rfl ?_
    exact du h
   ·intro q1 w Γx Ωx h
    refine OpS.iown h .z Tryz.underlying60 ty49 rfl rfl rfl rfl e9 ?_
    exact du h
   ·intro q1 w Γx Ωx h
    refine OpS.loadOi h .z (idx_ne e9) PA.a (Get.arr e9) ty49 rfl rfl rfl ?_
    exact du h
   ·intro q1 w Γx Ωx h
    refine OpS.mv rfl rfl rfl ?_
    exact du h
   ·intro q1 w Γx Ωx h
    refine OpS.shl rfl rfl rfl rfl e10 ?_
    exact du h
   have h18:=h
   refine gb rfl (op (OpS.iown h18 .z Tryz.underlying60 ty49 rfl rfl rfl rfl e9 ?_))
   obtain ⟨d1,e11,hF⟩:=letP_use hF
   refine op (OpS.storeO (f':=true) h18 .z (idx_ne e9) PA.a (Put.of (Put.arr e9) e11) ty49 rfl rfl rfl V.int (.inl rfl) (λ w9 h19=>?_))
   refine nil (sr (op (OpS.fbox (o3:=6) h19 (.s .z) PA.z fa55_6 rfl rfl rfl rfl ?_)))
   refine op (OpS.loadBb h19 (.s .z) PA.a (Get.fld Event_.f6) ty4 rfl rfl rfl ?_)
   refine nil ?_
   refine Run.ite rfl hF (λ e12 hF=>?_) (λ e12 hF=>?_)
   ·obtain ⟨x4,e13,hF⟩:=bindP_use hF
    obtain ⟨e14,hF⟩:=chk_use hF
    refine Run.drawV (Ωs:=[(false,.box 55 Event_.rep u4 x2)]) [.k 83 u1,.k 84 (.int .i64 y3),.kr 85 (padd (sp u1) ((y3:Int).toNat*(Rep.int .u16).n)) [0],.kr 86 (.int .u16 x4) [0],.k 87 (.int .i64 y2.1),.k 88 (.int .u16 (bShl .u16 1 y2.1))] [[],[],[0,1],[2],[],[4]] [[(true,.slice 49 (Rep.int .u16) u1 d1)]] [0,1,2,3,4,5,6] Try_mixed rfl rfl rfl h19 (.cons ?_ (.cons ?_ (.cons ?_ (.cons ?_ (.cons ?_ (.cons ?_ .nil)))))) (λ q2 w hq2 h=>?_)
    ·intro q2 w Γx Ωx h
     refine OpS.mv rfl rfl rfl ?_
     exact du h
    ·intro q2 w Γx Ωx h
     refine OpS.mv rfl rfl rfl ?_
     exact du h
    ·intro q2 w Γx Ωx h
     refine OpS.iown h .z Tryz.underlying60 ty49 rfl rfl rfl rfl e13 ?_
     exact du h
    ·intro q2 w Γx Ωx h
     refine OpS.loadOi h .z (idx_ne e13) PA.a (Get.arr e13) ty49 rfl rfl rfl ?_
     exact du h
    ·intro q2 w Γx Ωx h
     refine OpS.mv rfl rfl rfl ?_
     exact du h
    ·intro q2 w Γx Ωx h
     refine OpS.shl rfl rfl rfl rfl e14 ?_
     exact du h
    have h20:=h
    refine gb rfl (op (OpS.iown h20 .z Tryz.underlying60 ty49 rfl rfl rfl rfl e13 ?_))
    obtain ⟨d2,e15,hF⟩:=letP_use hF
    refine op (OpS.storeO (f':=true) h20 .z (idx_ne e13) PA.a (Put.of (Put.arr e13) e15) ty49 rfl rfl rfl V.int (.inl rfl) (λ w10 h21=>?_))
    refine nil (Run.endBlock (Run.reg (gb rfl (gm rfl (nil (Run.slim [(0,v0),(7,u1),(22,v1),(23,.int .i64 (a1.length:Int)),(24,.int .i64 (IntKind.i64.wrap (s1.1+1)))] ⟨rfl,rfl,rfl,rfl,rfl,trivial⟩ ?_))))))
    exact hk1 ((IntKind.i64.wrap (s1.1+1)),d2) _ _ ⟨rfl,(h21.facts (.atm .z (.atm (.s .z) (.atm (.s (.s .z)) .nil)))).picks (.cons .z .nil)⟩ hF
   refine Run.skip (Run.endBlock (Run.reg (gb rfl (gm rfl (nil (Run.slim [(0,v0),(7,u1),(22,v1),(23,.int .i64 (a1.length:Int)),(24,.int .i64 (IntKind.i64.wrap (s1.1+1)))] ⟨rfl,rfl,rfl,rfl,rfl,trivial⟩ ?_))))))
   exact hk1 ((IntKind.i64.wrap (s1.1+1)),d1) _ _ ⟨rfl,(h19.facts (.atm .z (.atm (.s .z) (.atm (.s (.s .z)) .nil)))).picks (.cons .z .nil)⟩ hF
  obtain ⟨x5,e16,hF⟩:=letP_use hF
  refine iteP_use hF (λ e17 hF=>?_) (λ e17 hF=>?_)
  ·have hG:=hF
   subst e17
   have hF:=hG
   refine Run.drawV (Ωs:=[(true,.slice 49 (Rep.int .u16) u1 s1.2)]) [.k 37 (.bool y2.2.2),.k 38 (.bool (!y2.2.2)),.k 39 (.bool true),.k 40 undef,.k 41 undef,.k 42 (.bool true),.k 43 (.bool true),.k 44 undef,.k 45 undef,.k 46 undef,.k 47 undef,.k 48 undef,.k 49 undef,.k 50 undef,.k 51 undef,.k 52 (.bool true),.k 53 (.bool true),.k 54 undef,.k 55 undef,.k 56 undef,.k 57 undef,.k 58 undef,.k 59 undef,.k 60 undef,.k 61 (.bool true),.k 62 (.bool true),.k 63 undef,.k 64 undef,.k 65 undef,.k 66 undef,.k 67 undef,.k 68 undef] [[],[0],[1],[2],[2],[2,4],[5],[6],[6],[6],[6],[6],[6],[6],[6],[6,14],[15],[16],[16],[16],[16],[16],[16],[16],[16,23],[24],[25],[25],[25],[25],[25],[25]] [[(false,.box 55 Event_.rep u4 x2)]] [0,1,2,3,4,5,6,7,8,9,10,11,12,13,14,15,16,17,18,19,20,21,22,23,24,25,26,27,28,29,30,31,32] Try_mixed rfl rfl rfl h15 (.cons ?_ (.cons ?_ (.cons ?_ (.cons (dp λ _=>rfl) (.cons (dp λ _=>rfl) (.cons ?_ (.cons ?_ (.cons (dp λ _=>rfl) (.cons (dp λ _=>rfl) (.cons (dp λ _=>rfl) (.cons (dp λ _=>rfl) (.cons (dp λ _=>rfl) (.cons (dp λ _=>rfl) (.cons (dp λ _=>rfl) (.cons (dp λ _=>rfl) (.cons ?_ (.cons ?_ (.cons (dp λ _=>rfl) (.cons (dp λ _=>rfl) (.cons (dp λ _=>rfl) (.cons (dp λ _=>rfl) (.cons (dp λ _=>rfl) (.cons (dp λ _=>rfl) (.cons (dp λ _=>rfl) (.cons ?_ (.cons ?_ (.cons (dp λ _=>rfl) (.cons (dp λ _=>rfl) (.cons (dp λ _=>rfl) (.cons (dp λ _=>rfl) (.cons (dp λ _=>rfl) (.cons (dp λ _=>rfl) .nil)))))))))))))))))))))))))))))))) (λ q3 w hq3 h=>?_)
   ·intro q3 w Γx Ωx h
    refine OpS.mv rfl rfl rfl ?_
    exact du h
   ·intro q3 w Γx Ωx h
    refine OpS.not rfl rfl rfl ?_
    exact du h
   ·intro q3 w Γx Ωx h
    refine OpS.mv rfl rfl rfl ?_
    exact ⟨undef,(congrArg (λ z_=>some (Value.bool z_)) e16),trivial,h⟩
   ·intro q3 w Γx Ωx h
    refine OpS.pick rfl rfl rfl rfl ?_
    exact du h
   ·intro q3 w Γx Ωx h
    refine OpS.mv rfl rfl rfl ?_
    exact du h
   ·intro q3 w Γx Ωx h
    refine OpS.pick rfl rfl rfl rfl ?_
    exact du h
   ·intro q3 w Γx Ωx h
    refine OpS.mv rfl rfl rfl ?_
    exact du h
   ·intro q3 w Γx Ωx h
    refine OpS.pick rfl rfl rfl rfl ?_
    exact du h
   ·intro q3 w Γx Ωx h
    refine OpS.mv rfl rfl rfl ?_
    exact du h
   have h22:=h
   refine gp rfl (gp rfl (gp rfl (gk rfl (nil (Run.slim [(72,.bool true),(13,.int .i64 y3),(10,.int .i64 y2.1),(9,u4),(0,v0),(7,u1),(22,v1),(23,.int .i64 (a1.length:Int)),(24,.int .i64 s1.1)] ⟨rfl,rfl,rfl,rfl,rfl,rfl,rfl,rfl,rfl,trivial⟩ ?_)))))
   refine Run.slim [(0,v0),(7,u1),(9,u4),(10,.int .i64 y2.1),(13,.int .i64 y3),(22,v1),(23,.int .i64 (a1.length:Int)),(24,.int .i64 s1.1),(72,.bool true)] ⟨rfl,rfl,rfl,rfl,rfl,rfl,rfl,rfl,rfl,trivial⟩ ?_
   exact hj1 (true) _ _ ⟨rfl,(h22.facts (.atm (.s (.s (.s .z))) (.atm (.s (.s (.s (.s .z)))) (.atm (.s (.s (.s (.s (.s .z))))) .nil)))).picks (.cons .z (.cons .z .nil))⟩ hF
  have hG:=hF
  subst e17
  have hF:=hG
  obtain ⟨x6,e18,hF⟩:=letP_use hF
  refine iteP_use hF (λ e19 hF=>?_) (λ e19 hF=>?_)
  ·have hG:=hF
   subst e19
   have hF:=hG
   refine Run.drawV (Ωs:=[(true,.slice 49 (Rep.int .u16) u1 s1.2)]) [.k 37 (.bool y2.2.2),.k 38 (.bool (!y2.2.2)),.k 39 (.bool false),.k 40 (.int .i64 y3),.k 41 (.bool (decide (y3<0))),.k 42 (.bool (decide (y3<0))),.k 43 (.bool true),.k 44 undef,.k 45 undef,.k 46 undef,.k 47 undef,.k 48 undef,.k 49 undef,.k 50 undef,.k 51 undef,.k 52 (.bool true),.k 53 (.bool true),.k 54 undef,.k 55 undef,.k 56 undef,.k 57 undef,.k 58 undef,.k 59 undef,.k 60 undef,.k 61 (.bool true),.k 62 (.bool true),.k 63 undef,.k 64 undef,.k 65 undef,.k 66 undef,.k 67 undef,.k 68 undef] [[],[0],[1],[2],[3,2],[2,4],[5],[6],[6],[6],[6],[6],[6],[6],[6],[6,14],[15],[16],[16],[16],[16],[16],[16],[16],[16,23],[24],[25],[25],[25],[25],[25],[25]] [[(false,.box 55 Event_.rep u4 x2)]] [0,1,2,3,4,5,6,7,8,9,10,11,12,13,14,15,16,17,18,19,20,21,22,23,24,25,26,27,28,29,30,31,32] Try_mixed rfl rfl rfl h15 (.cons ?_ (.cons ?_ (.cons ?_ (.cons ?_ (.cons ?_ (.cons ?_ (.cons ?_ (.cons (dp λ _=>rfl) (.cons (dp λ _=>rfl) (.cons (dp λ _=>rfl) (.cons (dp λ _=>rfl) (.cons (dp λ _=>rfl) (.cons (dp λ _=>rfl) (.cons (dp λ _=>rfl) (.cons (dp λ _=>rfl) (.cons ?_ (.cons ?_ (.cons (dp λ _=>rfl) (.cons (dp λ _=>rfl) (.cons (dp λ _=>rfl) (.cons (dp λ _=>rfl) (.cons (dp λ _=>rfl) (.cons (dp λ _=>rfl) (.cons (dp λ _=>rfl) (.cons ?_ (.cons ?_ (.cons (dp λ _=>rfl) (.cons (dp λ _=>rfl) (.cons (dp λ _=>rfl) (.cons (dp λ _=>rfl) (.cons (dp λ _=>rfl) (.cons (dp λ _=>rfl) .nil)))))))))))))))))))))))))))))))) (λ q3 w hq4 h=>?_)
   ·intro q3 w Γx Ωx h
    refine OpS.mv rfl rfl rfl ?_
    exact du h
   ·intro q3 w Γx Ωx h
    refine OpS.not rfl rfl rfl ?_
    exact du h
   ·intro q3 w Γx Ωx h
    refine OpS.mv rfl rfl rfl ?_
    exact ⟨undef,(congrArg (λ z_=>some (Value.bool z_)) e16),trivial,h⟩
   ·intro q3 w Γx Ωx h
    refine OpS.mv rfl rfl rfl ?_
    exact du h
   ·intro q3 w Γx Ωx h
    refine OpS.bin rfl rfl rfl rfl rfl ?_
    exact du h
   ·intro q3 w Γx Ωx h
    refine OpS.pick rfl rfl rfl rfl ?_
    exact du h
   ·intro q3 w Γx Ωx h
    refine OpS.mv rfl rfl rfl ?_
    exact ⟨undef,(congrArg (λ z_=>some (Value.bool z_)) e18),trivial,h⟩
   ·intro q3 w Γx Ωx h
    refine OpS.pick rfl rfl rfl rfl ?_
    exact du h
   ·intro q3 w Γx Ωx h
    refine OpS.mv rfl rfl rfl ?_
    exact du h
   ·intro q3 w Γx Ωx h
    refine OpS.pick rfl rfl rfl rfl ?_
    exact du h
   ·intro q3 w Γx Ωx h
    refine OpS.mv rfl rfl rfl ?_
    exact du h
   have h23:=h
   refine gp rfl (gp rfl (gp rfl (gk rfl (nil (Run.slim [(72,.bool true),(13,.int .i64 y3),(10,.int .i64 y2.1),(9,u4),(0,v0),(7,u1),(22,v1),(23,.int .i64 (a1.length:Int)),(24,.int .i64 s1.1)] ⟨rfl,rfl,rfl,rfl,rfl,rfl,rfl,rfl,rfl,trivial⟩ ?_)))))
   refine Run.slim [(0,v0),(7,u1),(9,u4),(10,.int .i64 y2.1),(13,.int .i64 y3),(22,v1),(23,.int .i64 (a1.length:Int)),(24,.int .i64 s1.1),(72,.bool true)] ⟨rfl,rfl,rfl,rfl,rfl,rfl,rfl,rfl,rfl,trivial⟩ ?_
   exact hj1 (true) _ _ ⟨rfl,(h23.facts (.atm (.s (.s (.s .z))) (.atm (.s (.s (.s (.s .z)))) (.atm (.s (.s (.s (.s (.s .z))))) .nil)))).picks (.cons .z (.cons .z .nil))⟩ hF
  have hG:=hF
  subst e19
  have hF:=hG
  obtain ⟨x7,e20,hF⟩:=bindP_use hF
  obtain ⟨x8,e21,hF⟩:=letP_use hF
  refine iteP_use hF (λ e22 hF=>?_) (λ e22 hF=>?_)
  ·have hG:=hF
   subst e22
   have hF:=hG
   refine Run.drawV (Ωs:=[(true,.slice 49 (Rep.int .u16) u1 s1.2)]) [.k 37 (.bool y2.2.2),.k 38 (.bool (!y2.2.2)),.k 39 (.bool false),.k 40 (.int .i64 y3),.k 41 (.bool (decide (y3<0))),.k 42 (.bool (decide (y3<0))),.k 43 (.bool false),.k 44 v0,.k 45 (.int .i64 y3),.f 46 (λ u_=>[(false,.ptr Sensor_.rep u_ x7)]),.f 47 (λ u_=>[(false,.ptr (Rep.int .u8) u_ x7.Type_)]),.k 48 (.int .u8 x7.Type_),.kr 49 (padd u4 3) [0],.kr 50 (.int .u8 x2.SensorType) [0],.k 51 (.bool (x7.Type_ != x2.SensorType)),.k 52 (.bool (x7.Type_ != x2.SensorType)),.k 53 (.bool true),.k 54 undef,.k 55 undef,.k 56 undef,.k 57 undef,.k 58 undef,.k 59 undef,.k 60 undef,.k 61 (.bool true),.k 62 (.bool true),.k 63 undef,.k 64 undef,.k 65 undef,.k 66 undef,.k 67 undef,.k 68 undef] [[],[0],[1],[2],[3,2],[2,4],[5],[6],[6],[7,8,6],[9,6],[10,6],[6],[12,6],[11,13,6],[6,14],[15],[16],[16],[16],[16],[16],[16],[16],[16,23],[24],[25],[25],[25],[25],[25],[25]] [[(false,.box 55 Event_.rep u4 x2)]] [0,1,2,3,4,5,6,7,8,9,10,11,12,13,14,15,16,17,18,19,20,21,22,23,24,25,26,27,28,29,30,31,32] Try_mixed rfl rfl rfl h15 (.cons ?_ (.cons ?_ (.cons ?_ (.cons ?_ (.cons ?_ (.cons ?_ (.cons ?_ (.cons ?_ (.cons ?_ (.cons ?_ (.cons ?_ (.cons ?_ (.cons ?_ (.cons ?_ (.cons ?_ (.cons ?_ (.cons ?_ (.cons (dp λ _=>rfl) (.cons (dp λ _=>rfl) (.cons (dp λ _=>rfl) (.cons (dp λ _=>rfl) (.cons (dp λ _=>rfl) (.cons (dp λ _=>rfl) (.cons (dp λ _=>rfl) (.cons ?_ (.cons ?_ (.cons (dp λ _=>rfl) (.cons (dp λ _=>rfl) (.cons (dp λ _=>rfl) (.cons (dp λ _=>rfl) (.cons (dp λ _=>rfl) (.cons (dp λ _=>rfl) .nil)))))))))))))))))))))))))))))))) (λ q3 w hq5 h=>?_)
   ·intro q3 w Γx Ωx h
    refine OpS.mv rfl rfl rfl ?_
    exact du h
   ·intro q3 w Γx Ωx h
    refine OpS.not rfl rfl rfl ?_
    exact du h
   ·intro q3 w Γx Ωx h
    refine OpS.mv rfl rfl rfl ?_
    exact ⟨undef,(congrArg (λ z_=>some (Value.bool z_)) e16),trivial,h⟩
   ·intro q3 w Γx Ωx h
    refine OpS.mv rfl rfl rfl ?_
    exact du h
   ·intro q3 w Γx Ωx h
    refine OpS.bin rfl rfl rfl rfl rfl ?_
    exact du h
   ·intro q3 w Γx Ωx h
    refine OpS.pick rfl rfl rfl rfl ?_
    exact du h
   ·intro q3 w Γx Ωx h
    refine OpS.mv rfl rfl rfl ?_
    exact ⟨undef,(congrArg (λ z_=>some (Value.bool z_)) e18),trivial,h⟩
   ·intro q3 w Γx Ωx h
    refine OpS.mv rfl rfl rfl ?_
    exact du h
   ·intro q3 w Γx Ωx h
    refine OpS.mv rfl rfl rfl ?_
    exact du h
   ·intro q3 w Γx Ωx h
    refine OpS.iptr h Tryz.underlying27 ty74 rfl rfl rfl rfl (V.at (.s (.s (.s .z)))) e20 (λ u h26=>?_)
    exact ⟨u,rfl,trivial,h26⟩
   ·intro q3 w Γx Ωx h
    refine OpS.fptr h fa74_1 Sensor_.f1 rfl rfl rfl .z (λ u h27=>?_)
    exact ⟨u,rfl,trivial,h27⟩
   ·intro q3 w Γx Ωx h
    refine OpS.loadi h ty5 rfl rfl rfl .z ?_
    exact du h
   ·intro q3 w Γx Ωx h
    refine OpS.fbox (o3:=3) h .z PA.z fa55_3 rfl rfl rfl rfl ?_
    exact du h
   ·intro q3 w Γx Ωx h
    refine OpS.loadBi h .z PA.a (Get.fld Event_.f3) ty5 rfl rfl rfl ?_
    exact du h
   ·intro q3 w Γx Ωx h
    refine OpS.bin rfl rfl rfl rfl rfl ?_
    exact du h
   ·intro q3 w Γx Ωx h
    refine OpS.pick rfl rfl rfl rfl ?_
    exact du h
   ·intro q3 w Γx Ωx h
    refine OpS.mv rfl rfl rfl ?_
    exact ⟨undef,(congrArg (λ z_=>some (Value.bool z_)) e21),trivial,h⟩
   ·intro q3 w Γx Ωx h
    refine OpS.pick rfl rfl rfl rfl ?_
    exact du h
   ·intro q3 w Γx Ωx h
    refine OpS.mv rfl rfl rfl ?_
    exact du h
   have h28:=h
   refine gp rfl (gp rfl (gp rfl (gk rfl (nil (Run.slim [(72,.bool true),(13,.int .i64 y3),(10,.int .i64 y2.1),(9,u4),(0,v0),(7,u1),(22,v1),(23,.int .i64 (a1.length:Int)),(24,.int .i64 s1.1)] ⟨rfl,rfl,rfl,rfl,rfl,rfl,rfl,rfl,rfl,trivial⟩ ?_)))))
   refine Run.slim [(0,v0),(7,u1),(9,u4),(10,.int .i64 y2.1),(13,.int .i64 y3),(22,v1),(23,.int .i64 (a1.length:Int)),(24,.int .i64 s1.1),(72,.bool true)] ⟨rfl,rfl,rfl,rfl,rfl,rfl,rfl,rfl,rfl,trivial⟩ ?_
   exact hj1 (true) _ _ ⟨rfl,(h28.facts (.atm (.s (.s (.s (.s (.s .z))))) (.atm (.s (.s (.s (.s (.s (.s .z)))))) (.atm (.s (.s (.s (.s (.s (.s (.s .z))))))) .nil)))).picks (.cons .z (.cons .z .nil))⟩ hF
  have hG:=hF
  subst e22
  have hF:=hG
  obtain ⟨x9,e23,hF⟩:=letP_use hF
  refine iteP_use hF (λ e24 hF=>?_) (λ e24 hF=>?_)
  ·have hG:=hF
   subst e24
   have hF:=hG
   refine Run.drawV (Ωs:=[(true,.slice 49 (Rep.int .u16) u1 s1.2)]) [.k 37 (.bool y2.2.2),.k 38 (.bool (!y2.2.2)),.k 39 (.bool false),.k 40 (.int .i64 y3),.k 41 (.bool (decide (y3<0))),.k 42 (.bool (decide (y3<0))),.k 43 (.bool false),.k 44 v0,.k 45 (.int .i64 y3),.f 46 (λ u_=>[(false,.ptr Sensor_.rep u_ x7)]),.f 47 (λ u_=>[(false,.ptr (Rep.int .u8) u_ x7.Type_)]),.k 48 (.int .u8 x7.Type_),.kr 49 (padd u4 3) [0],.kr 50 (.int .u8 x2.SensorType) [0],.k 51 (.bool (x7.Type_ != x2.SensorType)),.k 52 (.bool (x7.Type_ != x2.SensorType)),.k 53 (.bool false),.k 54 v0,.k 55 (.int .i64 y3),.f 56 (λ u_=>[(false,.ptr Sensor_.rep u_ x7)]),.f 57 (λ u_=>[(false,.ptr Rep.bool u_ x7.Discrete)]),.k 58 (.bool x7.Discrete),.k 59 (.bool y2.2.1),.k 60 (.bool (x7.Discrete==y2.2.1)),.k 61 (.bool (x7.Discrete==y2.2.1)),.k 62 (.bool true),.k 63 undef,.k 64 undef,.k 65 undef,.k 66 undef,.k 67 undef,.k 68 undef] [[],[0],[1],[2],[3,2],[2,4],[5],[6],[6],[7,8,6],[9,6],[10,6],[6],[12,6],[11,13,6],[6,14],[15],[16],[16],[17,18,16],[19,16],[20,16],[16],[21,22,16],[16,23],[24],[25],[25],[25],[25],[25],[25]] [[(false,.box 55 Event_.rep u4 x2)]] [0,1,2,3,4,5,6,7,8,9,10,11,12,13,14,15,16,17,18,19,20,21,22,23,24,25,26,27,28,29,30,31,32] Try_mixed rfl rfl rfl h15 (.cons ?_ (.cons ?_ (.cons ?_ (.cons ?_ (.cons ?_ (.cons ?_ (.cons ?_ (.cons ?_ (.cons ?_ (.cons ?_ (.cons ?_ (.cons ?_ (.cons ?_ (.cons ?_ (.cons ?_ (.cons ?_ (.cons ?_ (.cons ?_ (.cons ?_ (.cons ?_ (.cons ?_ (.cons ?_ (.cons ?_ (.cons ?_ (.cons ?_ (.cons ?_ (.cons (dp λ _=>rfl) (.cons (dp λ _=>rfl) (.cons (dp λ _=>rfl) (.cons (dp λ _=>rfl) (.cons (dp λ _=>rfl) (.cons (dp λ _=>rfl) .nil)))))))))))))))))))))))))))))))) (λ q3 w hq6 h=>?_)
   ·intro q3 w Γx Ωx h
    refine OpS.mv rfl rfl rfl ?_
    exact du h
   ·intro q3 w Γx Ωx h
    refine OpS.not rfl rfl rfl ?_
    exact du h
   ·intro q3 w Γx Ωx h
    refine OpS.mv rfl rfl rfl ?_
    exact ⟨undef,(congrArg (λ z_=>some (Value.bool z_)) e16),trivial,h⟩
   ·intro q3 w Γx Ωx h
    refine OpS.mv rfl rfl rfl ?_
    exact du h
   ·intro q3 w Γx Ωx h
    refine OpS.bin rfl rfl rfl rfl rfl ?_
    exact du h
   ·intro q3 w Γx Ωx h
    refine OpS.pick rfl rfl rfl rfl ?_
    exact du h
   ·intro q3 w Γx Ωx h
    refine OpS.mv rfl rfl rfl ?_
    exact ⟨undef,(congrArg (λ z_=>some (Value.bool z_)) e18),trivial,h⟩
   ·intro q3 w Γx Ωx h
    refine OpS.mv rfl rfl rfl ?_
    exact du h
   ·intro q3 w Γx Ωx h
    refine OpS.mv rfl rfl rfl ?_
    exact du h
   ·intro q3 w Γx Ωx h
    refine OpS.iptr h Tryz.underlying27 ty74 rfl rfl rfl rfl (V.at (.s (.s (.s .z)))) e20 (λ u h31=>?_)
    exact ⟨u,rfl,trivial,h31⟩
   ·intro q3 w Γx Ωx h
    refine OpS.fptr h fa74_1 Sensor_.f1 rfl rfl rfl .z (λ u h32=>?_)
    exact ⟨u,rfl,trivial,h32⟩
   ·intro q3 w Γx Ωx h
    refine OpS.loadi h ty5 rfl rfl rfl .z ?_
    exact du h
   ·intro q3 w Γx Ωx h
    refine OpS.fbox (o3:=3) h .z PA.z fa55_3 rfl rfl rfl rfl ?_
    exact du h
   ·intro q3 w Γx Ωx h
    refine OpS.loadBi h .z PA.a (Get.fld Event_.f3) ty5 rfl rfl rfl ?_
    exact du h
   ·intro q3 w Γx Ωx h
    refine OpS.bin rfl rfl rfl rfl rfl ?_
    exact du h
   ·intro q3 w Γx Ωx h
    refine OpS.pick rfl rfl rfl rfl ?_
    exact du h
   ·intro q3 w Γx Ωx h
    refine OpS.mv rfl rfl rfl ?_
    exact ⟨undef,(congrArg (λ z_=>some (Value.bool z_)) e21),trivial,h⟩
   ·intro q3 w Γx Ωx h
    refine OpS.mv rfl rfl rfl ?_
    exact du h
   ·intro q3 w Γx Ωx h
    refine OpS.mv rfl rfl rfl ?_
    exact du h
   ·intro q3 w Γx Ωx h
    refine OpS.iptr h Tryz.underlying27 ty74 rfl rfl rfl rfl (V.at (.s (.s (.s .z)))) e20 (λ u h33=>?_)
    exact ⟨u,rfl,trivial,h33⟩
   ·intro q3 w Γx Ωx h
    refine OpS.fptr h fa74_5 Sensor_.f5 rfl rfl rfl .z (λ u h34=>?_)
    exact ⟨u,rfl,trivial,h34⟩
   ·intro q3 w Γx Ωx h
    refine OpS.loadb h ty4 rfl rfl rfl .z ?_
    exact du h
   ·intro q3 w Γx Ωx h
    refine OpS.mv rfl rfl rfl ?_
    exact du h
   ·intro q3 w Γx Ωx h
    refine OpS.eqb Tryz.underlying4 rfl rfl rfl rfl ?_
    exact du h
   ·intro q3 w Γx Ωx h
    refine OpS.pick rfl rfl rfl rfl ?_
    exact du h
   ·intro q3 w Γx Ωx h
    refine OpS.mv rfl rfl rfl ?_
    exact ⟨undef,(congrArg (λ z_=>some (Value.bool z_)) e23),trivial,h⟩
   have h35:=h
   refine gp rfl (gp rfl (gp rfl (gk rfl (nil (Run.slim [(72,.bool true),(13,.int .i64 y3),(10,.int .i64 y2.1),(9,u4),(0,v0),(7,u1),(22,v1),(23,.int .i64 (a1.length:Int)),(24,.int .i64 s1.1)] ⟨rfl,rfl,rfl,rfl,rfl,rfl,rfl,rfl,rfl,trivial⟩ ?_)))))
   refine Run.slim [(0,v0),(7,u1),(9,u4),(10,.int .i64 y2.1),(13,.int .i64 y3),(22,v1),(23,.int .i64 (a1.length:Int)),(24,.int .i64 s1.1),(72,.bool true)] ⟨rfl,rfl,rfl,rfl,rfl,rfl,rfl,rfl,rfl,trivial⟩ ?_
   exact hj1 (true) _ _ ⟨rfl,(h35.facts (.atm (.s (.s (.s (.s (.s (.s (.s .z))))))) (.atm (.s (.s (.s (.s (.s (.s (.s (.s .z)))))))) (.atm (.s (.s (.s (.s (.s (.s (.s (.s (.s .z))))))))) .nil)))).picks (.cons .z (.cons .z .nil))⟩ hF
  have hG:=hF
  subst e24
  have hF:=hG
  obtain ⟨y4,e25,hF⟩:=bindP_use hF
  refine Run.drawV (Ωs:=[(true,.slice 49 (Rep.int .u16) u1 s1.2)]) [.k 37 (.bool y2.2.2),.k 38 (.bool (!y2.2.2)),.k 39 (.bool false),.k 40 (.int .i64 y3),.k 41 (.bool (decide (y3<0))),.k 42 (.bool (decide (y3<0))),.k 43 (.bool false),.k 44 v0,.k 45 (.int .i64 y3),.f 46 (λ u_=>[(false,.ptr Sensor_.rep u_ x7)]),.f 47 (λ u_=>[(false,.ptr (Rep.int .u8) u_ x7.Type_)]),.k 48 (.int .u8 x7.Type_),.kr 49 (padd u4 3) [0],.kr 50 (.int .u8 x2.SensorType) [0],.k 51 (.bool (x7.Type_ != x2.SensorType)),.k 52 (.bool (x7.Type_ != x2.SensorType)),.k 53 (.bool false),.k 54 v0,.k 55 (.int .i64 y3),.f 56 (λ u_=>[(false,.ptr Sensor_.rep u_ x7)]),.f 57 (λ u_=>[(false,.ptr Rep.bool u_ x7.Discrete)]),.k 58 (.bool x7.Discrete),.k 59 (.bool y2.2.1),.k 60 (.bool (x7.Discrete==y2.2.1)),.k 61 (.bool (x7.Discrete==y2.2.1)),.k 62 (.bool false),.k 63 v0,.k 64 (.int .i64 y3),.f 65 (λ u_=>[(false,.ptr Sensor_.rep u_ x7)]),.f 66 (λ u_=>[(false,.val Sensor_.rep u_ x7)]),.k 67 (.int .u16 y4),.k 68 (.int .i64 y2.1)] [[],[0],[1],[2],[3,2],[2,4],[5],[6],[6],[7,8,6],[9,6],[10,6],[6],[12,6],[11,13,6],[6,14],[15],[16],[16],[17,18,16],[19,16],[20,16],[16],[21,22,16],[16,23],[24],[25],[25],[26,27,25],[28,25],[29,25],[25]] [[(false,.box 55 Event_.rep u4 x2)]] [0,1,2,3,4,5,6,7,8,9,10,11,12,13,14,15,16,17,18,19,20,21,22,23,24,25,26,27,28,29,30,31,32] Try_mixed rfl rfl rfl h15 (.cons ?_ (.cons ?_ (.cons ?_ (.cons ?_ (.cons ?_ (.cons ?_ (.cons ?_ (.cons ?_ (.cons ?_ (.cons ?_ (.cons ?_ (.cons ?_ (.cons ?_ (.cons ?_ (.cons ?_ (.cons ?_ (.cons ?_ (.cons ?_ (.cons ?_ (.cons ?_ (.cons ?_ (.cons ?_ (.cons ?_ (.cons ?_ (.cons ?_ (.cons ?_ (.cons ?_ (.cons ?_ (.cons ?_ (.cons ?_ (.cons ?_ (.cons ?_ .nil)))))))))))))))))))))))))))))))) (λ q3 w hq7 h=>?_)
  ·intro q3 w Γx Ωx h
   refine OpS.mv rfl rfl rfl ?_
   exact du h
  ·intro q3 w Γx Ωx h
   refine OpS.not rfl rfl rfl ?_
   exact du h
  ·intro q3 w Γx Ωx h
   refine OpS.mv rfl rfl rfl ?_
   exact ⟨undef,(congrArg (λ z_=>some (Value.bool z_)) e16),trivial,h⟩
  ·intro q3 w Γx Ωx h
   refine OpS.mv rfl rfl rfl ?_
   exact du h
  ·intro q3 w Γx Ωx h
   refine OpS.bin rfl rfl rfl rfl rfl ?_
   exact du h
  ·intro q3 w Γx Ωx h
   refine OpS.pick rfl rfl rfl rfl ?_
   exact du h
  ·intro q3 w Γx Ωx h
   refine OpS.mv rfl rfl rfl ?_
   exact ⟨undef,(congrArg (λ z_=>some (Value.bool z_)) e18),trivial,h⟩
  ·intro q3 w Γx Ωx h
   refine OpS.mv rfl rfl rfl ?_
   exact du h
  ·intro q3 w Γx Ωx h
   refine OpS.mv rfl rfl rfl ?_
   exact du h
  ·intro q3 w Γx Ωx h
   refine OpS.iptr h Tryz.underlying27 ty74 rfl rfl rfl rfl (V.at (.s (.s (.s .z)))) e20 (λ u h40=>?_)
   exact ⟨u,rfl,trivial,h40⟩
  ·intro q3 w Γx Ωx h
   refine OpS.fptr h fa74_1 Sensor_.f1 rfl rfl rfl .z (λ u h41=>?_)
   exact ⟨u,rfl,trivial,h41⟩
  ·intro q3 w Γx Ωx h
   refine OpS.loadi h ty5 rfl rfl rfl .z ?_
   exact du h
  ·intro q3 w Γx Ωx h
   refine OpS.fbox (o3:=3) h .z PA.z fa55_3 rfl rfl rfl rfl ?_
   exact du h
  ·intro q3 w Γx Ωx h
   refine OpS.loadBi h .z PA.a (Get.fld Event_.f3) ty5 rfl rfl rfl ?_
   exact du h
  ·intro q3 w Γx Ωx h
   refine OpS.bin rfl rfl rfl rfl rfl ?_
   exact du h
  ·intro q3 w Γx Ωx h
   refine OpS.pick rfl rfl rfl rfl ?_
   exact du h
  ·intro q3 w Γx Ωx h
   refine OpS.mv rfl rfl rfl ?_
   exact ⟨undef,(congrArg (λ z_=>some (Value.bool z_)) e21),trivial,h⟩
  ·intro q3 w Γx Ωx h
   refine OpS.mv rfl rfl rfl ?_
   exact du h
  ·intro q3 w Γx Ωx h
   refine OpS.mv rfl rfl rfl ?_
   exact du h
  ·intro q3 w Γx Ωx h
   refine OpS.iptr h Tryz.underlying27 ty74 rfl rfl rfl rfl (V.at (.s (.s (.s .z)))) e20 (λ u h42=>?_)
   exact ⟨u,rfl,trivial,h42⟩
  ·intro q3 w Γx Ωx h
   refine OpS.fptr h fa74_5 Sensor_.f5 rfl rfl rfl .z (λ u h43=>?_)
   exact ⟨u,rfl,trivial,h43⟩
  ·intro q3 w Γx Ωx h
   refine OpS.loadb h ty4 rfl rfl rfl .z ?_
   exact du h
  ·intro q3 w Γx Ωx h
   refine OpS.mv rfl rfl rfl ?_
   exact du h
  ·intro q3 w Γx Ωx h
   refine OpS.eqb Tryz.underlying4 rfl rfl rfl rfl ?_
   exact du h
  ·intro q3 w Γx Ωx h
   refine OpS.pick rfl rfl rfl rfl ?_
   exact du h
  ·intro q3 w Γx Ωx h
   refine OpS.mv rfl rfl rfl ?_
   exact ⟨undef,(congrArg (λ z_=>some (Value.bool z_)) e23),trivial,h⟩
  ·intro q3 w Γx Ωx h
   refine OpS.mv rfl rfl rfl ?_
   exact du h
  ·intro q3 w Γx Ωx h
   refine OpS.mv rfl rfl rfl ?_
   exact du h
  ·intro q3 w Γx Ωx h
   refine OpS.iptr h Tryz.underlying27 ty74 rfl rfl rfl rfl (V.at (.s (.s (.s .z)))) e20 (λ u h44=>?_)
   exact ⟨u,rfl,trivial,h44⟩
  ·intro q3 w Γx Ωx h
   refine OpS.load h ty74 rfl rfl rfl .z (λ u h45=>?_)
   exact ⟨u,rfl,trivial,h45⟩
  ·intro q3 w Γx Ωx h
   refine OpS.callP h Tryz.func93 rfl rfl rfl rfl (vs:=[(q3 29)]) rfl (monitor_bits_ok e25) (.cons (f:=false) (V.at .z) .nil) ?_
   rintro _ w12 _ _ _ ⟨rfl,rfl,rfl,rfl⟩ h46
   have h47:=h46 rfl rfl
   simp only [ca,na] at h47
   exact ⟨undef,rfl,trivial,h47⟩
  ·intro q3 w Γx Ωx h
   refine OpS.mv rfl rfl rfl ?_
   exact du h
  have h48:=h
  obtain ⟨e26,hF⟩:=chk_use hF
  refine op (OpS.shr rfl rfl rfl rfl e26 ?_)
  refine gb rfl (gb rfl (gk rfl (nil (Run.slim [(72,.bool ((bAnd .u16 (bShr .u16 y4 y2.1) 1)==0)),(13,.int .i64 y3),(10,.int .i64 y2.1),(9,u4),(0,v0),(7,u1),(22,v1),(23,.int .i64 (a1.length:Int)),(24,.int .i64 s1.1)] ⟨rfl,rfl,rfl,rfl,rfl,rfl,rfl,rfl,rfl,trivial⟩ ?_))))
  refine Run.slim [(0,v0),(7,u1),(9,u4),(10,.int .i64 y2.1),(13,.int .i64 y3),(22,v1),(23,.int .i64 (a1.length:Int)),(24,.int .i64 s1.1),(72,.bool ((bAnd .u16 (bShr .u16 y4 y2.1) 1)==0))] ⟨rfl,rfl,rfl,rfl,rfl,rfl,rfl,rfl,rfl,trivial⟩ ?_
  exact hj1 ((bAnd .u16 (bShr .u16 y4 y2.1) 1)==0) _ _ ⟨rfl,(h48.facts (.atm (.s (.s (.s (.s (.s (.s (.s (.s (.s .z))))))))) (.atm (.s (.s (.s (.s (.s (.s (.s (.s (.s (.s .z)))))))))) (.atm (.s (.s (.s (.s (.s (.s (.s (.s (.s (.s (.s .z))))))))))) .nil)))).picks (.cons .z (.cons .z .nil))⟩ hF
 refine Run.exit rfl ?_
 refine sr (gm rfl (ga rfl (ga rfl (nil (Run.retP rfl (.tmp rfl (.tmp rfl .nil)) ?_)))))
 cases hF
 exact Post.mk' ⟨u1,rfl,rfl,rfl,rfl⟩ (h5.picks (.cons .z .nil)) .nil
set_option maxRecDepth 20000 in
theorem monitor_Monitor_Reading_ok {fuel:Nat} {a0:monitor_Monitor} {a1:Int} {y:Int×Bool} (hF:monitor_Monitor_Reading fuel a0 a1=some y) {w:World} {v0 v0_0 v0_1:Value} :
  Spec Tryz.prog 33 [v0,.int .u8 a1].toArray w [] [(false,.box 184 (monitor_Monitor.repW v0_0 v0_1) v0 a0),(false,.slice 188 Filter_.rep v0_0 a0.filters),(false,.slice 49 (Rep.int .u16) v0_1 a0.states)] (λ v Γr Ωr Ωo=>v=.tuple #[.int .u8 y.1,.bool y.2]∧Γr=[]∧Ωr=[]∧Ωo=[(false,.box 184 (monitor_Monitor.repW v0_0 v0_1) v0 a0),(false,(.slice 188 Filter_.rep v0_0 a0.filters)),(false,(.slice 49 (Rep.int .u16) v0_1 a0.states))]):=by
 refine Spec.of (L:=[(0,v0),(1,.int .u8 a1)]) Tryz.func33 rfl ⟨rfl,rfl,trivial⟩ rfl (λ e h=>?_)
 unfold monitor_Monitor_Reading at hF
 refine sr (ga rfl (ga rfl (nil (sr (gm rfl (gm rfl ?_))))))
 obtain ⟨y1,e1,hF⟩:=bindP_use hF
 have h1:=h.front (.cons .z (.cons .z (.cons .z .nil)))
 refine op (OpS.callO h1 Tryz.func94 rfl rfl rfl rfl (vs:=[v0,.int .u8 a1]) rfl (monitor_Monitor_find_ok e1) rfl .nil ?_)
 rintro _ w1 _ _ _ ⟨rfl,rfl,rfl,rfl⟩ h2
 have h3:=h2
 simp only [ca,na] at h3
 refine ga rfl (nil (Run.seq (sr (gm rfl (gb rfl (gm rfl ?_))))))
 refine RunL.join (σ:=Bool) (λ s_ L_ w_=>L_=[(0,v0),(6,.int .i64 y1),(21,.bool s_)]∧St e w_ [] [(false,.box 184 (monitor_Monitor.repW v0_0 v0_1) v0 a0),(false,.slice 188 Filter_.rep v0_0 a0.filters),(false,.slice 49 (Rep.int .u16) v0_1 a0.states)]) hF (λ s1 _ w2 hI hF=>?_) (λ j1 hj1 hF=>?_)
 ·obtain ⟨rfl,h4⟩:=hI
  refine Run.ite rfl hF (λ e2 hF=>?_) (λ e2 hF=>?_)
  ·refine sr (ga rfl (ga rfl (nil (Run.retP rfl (.tmp rfl (.tmp rfl .nil)) ?_))))
   cases hF
   exact Post.mk' ⟨rfl,rfl,rfl,rfl⟩ (h4.picks (.cons .z (.cons .z (.cons .z .nil)))) .nil
  refine Run.skip (Run.seq ?_)
  obtain ⟨x1,e3,hF⟩:=bindP_use hF
  obtain ⟨x2,e4,hF⟩:=bindP_use hF
  obtain ⟨y2,e5,hF⟩:=bindP_use hF
  refine Run.drawV (Ωs:=[(false,.slice 49 (Rep.int .u16) v0_1 a0.states)]) [.k 22 v0,.kr 23 v0 [0],.kr 24 (padd v0 0) [0],.fr 25 (λ u_=>[(false,.val (Rep.slice Sensor_.rep) u_ a0.sensors)]) [0],.k 26 (.int .i64 y1),.f 27 (λ u_=>[(false,.ptr Sensor_.rep u_ x1)]),.f 28 (λ u_=>[(false,.val Sensor_.rep u_ x1)]),.k 29 v0,.kr 30 v0 [0],.kr 31 (padd v0 2) [0],.kr 32 v0_0 [0],.k 33 (.int .i64 y1),.kr 34 (padd (sp v0_0) ((y1:Int).toNat*Filter_.rep.n)) [1],.fr 35 (λ u_=>[(false,.val Filter_.rep u_ x2)]) [1],.k 36 (.tuple #[.int .u8 y2.1,.bool y2.2]),.k 37 (.int .u8 y2.1),.k 38 (.bool y2.2)] [[],[0],[1],[2],[],[3,4],[5],[],[7],[8],[9],[],[10,11],[12],[6,13],[14],[14]] [[(false,.box 184 (monitor_Monitor.repW v0_0 v0_1) v0 a0)],[(false,.slice 188 Filter_.rep v0_0 a0.filters)]] [0,1,2,3,4,5,6,7,8,9,10,11,12,13,14,15,16,17,18] Try_mixed rfl rfl rfl h4 (.cons ?_ (.cons ?_ (.cons ?_ (.cons ?_ (.cons ?_ (.cons ?_ (.cons ?_ (.cons ?_ (.cons ?_ (.cons ?_ (.cons ?_ (.cons ?_ (.cons ?_ (.cons ?_ (.cons ?_ (.cons ?_ (.cons ?_ .nil))))))))))))))))) (λ q1 w hq1 h=>?_)
  ·intro q1 w Γx Ωx h
   refine OpS.mv rfl rfl rfl ?_
   exact du h
  ·intro q1 w Γx Ωx h
   refine OpS.nchk h .z rfl rfl rfl ?_
   exact du h
  ·intro q1 w Γx Ωx h
   refine OpS.fbox (o3:=0) h .z PA.z fa184_0 rfl rfl rfl rfl ?_
   exact du h
  ·intro q1 w Γx Ωx h
   refine OpS.loadB (fr:=(Rep.slice Sensor_.rep)) h .z PA.a (GetS.ok (GetS.iso _ (GetS.here GetS.id))) (Ty.like ty27 (by rfl) (by rfl)) rfl rfl rfl (λ u h11=>?_)
   exact ⟨u,rfl,trivial,h11⟩
  ·intro q1 w Γx Ωx h
   refine OpS.mv rfl rfl rfl ?_
   exact du h
  ·intro q1 w Γx Ωx h
   refine OpS.iptr h Tryz.underlying27 ty74 rfl rfl rfl rfl (V.at .z) e3 (λ u h12=>?_)
   exact ⟨u,rfl,trivial,h12⟩
  ·intro q1 w Γx Ωx h
   refine OpS.load h ty74 rfl rfl rfl .z (λ u h13=>?_)
   exact ⟨u,rfl,trivial,h13⟩
  ·intro q1 w Γx Ωx h
   refine OpS.mv rfl rfl rfl ?_
   exact du h
  ·intro q1 w Γx Ωx h
   refine OpS.nchk h .z rfl rfl rfl ?_
   exact du h
  ·intro q1 w Γx Ωx h
   refine OpS.fbox (o3:=2) h .z PA.z fa184_2 rfl rfl rfl rfl ?_
   exact du h
  ·intro q1 w Γx Ωx h
   refine OpS.loadR h .z PA.a (GetS.ok (GetS.iso _ (GetS.there (GetS.there (GetS.here GetS.id))))) ty182 rfl rfl rfl rfl rfl ?_
   exact du h
  ·intro q1 w Γx Ωx h
   refine OpS.mv rfl rfl rfl ?_
   exact du h
  ·intro q1 w Γx Ωx h
   refine OpS.iown h .z Tryz.underlying182 ty188 rfl rfl rfl rfl e4 ?_
   exact du h
  ·intro q1 w Γx Ωx h
   refine OpS.loadO h .z (idx_ne e4) PA.a (Get.arr e4) ty188 rfl rfl rfl (λ u h14=>?_)
   exact ⟨u,rfl,trivial,h14⟩
  ·intro q1 w Γx Ωx h
   refine OpS.callP h Tryz.func100 rfl rfl rfl rfl (vs:=[(q1 6),(q1 13)]) rfl (sampling_Reading_ok e5) (.cons (f:=false) (V.at .z) (.cons (f:=false) (V.at (.s .z)) .nil)) ?_
   rintro _ w4 _ _ _ ⟨rfl,rfl,rfl,rfl⟩ h15
   have h16:=h15 rfl rfl
   simp only [ca,na] at h16
   exact ⟨undef,rfl,trivial,h16⟩
  ·intro q1 w Γx Ωx h
   refine OpS.ext rfl rfl rfl rfl ?_
   exact du h
  ·intro q1 w Γx Ωx h
   refine OpS.ext rfl rfl rfl rfl ?_
   exact du h
  have h17:=h
  refine ga rfl (ga rfl (nil (Run.retP rfl (.tmp rfl (.tmp rfl .nil)) ?_)))
  cases hF
  exact Post.mk' ⟨rfl,rfl,rfl,rfl⟩ (h17.picks (.cons .z (.cons .z (.cons .z .nil)))) .nil
 refine RunL.caseb hF (λ e6 hF=>?_) (λ e6 hF=>?_)
 ·refine gp rfl (gp rfl (gp rfl (gp rfl (gp rfl (gp rfl (gp rfl (gp rfl (gk rfl (nil (Run.slim [(0,v0),(6,.int .i64 y1),(21,.bool true)] ⟨rfl,rfl,rfl,trivial⟩ ?_))))))))))
  exact hj1 (true) _ _ ⟨rfl,(h3.facts .nil).picks (.cons .z (.cons .z (.cons .z .nil)))⟩ hF
 refine gm rfl (op (OpS.nchk h3 .z rfl rfl rfl ?_))
 refine op (OpS.fbox (o3:=0) h3 .z PA.z fa184_0 rfl rfl rfl rfl ?_)
 refine op (OpS.loadB (fr:=(Rep.slice Sensor_.rep)) h3 .z PA.a (GetS.ok (GetS.iso _ (GetS.here GetS.id))) (Ty.like ty27 (by rfl) (by rfl)) rfl rfl rfl (λ u1 h18=>?_))
 refine gm rfl ?_
 obtain ⟨x3,e7,hF⟩:=bindP_use hF
 refine op (OpS.iptr h18 Tryz.underlying27 ty74 rfl rfl rfl rfl (V.at .z) e7 (λ u2 h19=>?_))
 refine op (OpS.fptr h19 fa74_5 Sensor_.f5 rfl rfl rfl .z (λ u3 h20=>?_))
 refine op (OpS.loadb h20 ty4 rfl rfl rfl .z ?_)
 refine gk rfl (nil (Run.slim [(0,v0),(6,.int .i64 y1),(21,.bool x3.Discrete)] ⟨rfl,rfl,rfl,trivial⟩ ?_))
 exact hj1 (x3.Discrete) _ _ ⟨rfl,(h20.facts .nil).picks (.cons .z (.cons .z (.cons .z .nil)))⟩ hF
set_option maxRecDepth 20000 in
theorem threshold_Severity_ok {fuel:Nat} {a0:Int} {y:Int} (hF:threshold_Severity fuel a0=some y) {w:World} :
  Spec Tryz.prog 34 [.int .u8 a0].toArray w [] [] (λ v Γr Ωr Ωo=>v=.int .i64 y∧Γr=[]∧Ωr=[]∧Ωo=[]):=by
 refine Spec.of (L:=[(0,.int .u8 a0)]) Tryz.func34 rfl ⟨rfl,trivial⟩ rfl (λ e h=>?_)
 unfold threshold_Severity at hF
 refine sr (ga rfl (nil (Run.seq (sr (ga rfl (nil (Run.block (Run.slim [(0,.int .u8 a0),(3,.int .i64 3)] ⟨rfl,rfl,trivial⟩ ?_))))))))
 refine Run.loopP (σ:=Int) (λ s_ L_ w_=>L_=[(0,.int .u8 a0),(3,.int .i64 s_)]∧St e w_ [] []) hF ⟨rfl,(h.facts .nil).picks .nil⟩ (λ k1 hk1 s1 _ w1 hI hF=>?_)
 obtain ⟨rfl,h1⟩:=hI
 refine Run.seq (sr (gm rfl (gb rfl (nil ?_))))
 refine Run.ite rfl hF (λ e1 hF=>?_) (λ e1 hF=>?_)
 ·refine Run.skip (Run.seq (Run.block (Run.seq ?_)))
  obtain ⟨e2,hF⟩:=chk_use hF
  obtain ⟨e3,hF⟩:=chk_use hF
  refine Run.drawV (Ωs:=[]) [.k 8 (.int .u8 a0),.k 9 (.int .i64 s1),.k 10 (.int .i64 (IntKind.i64.wrap (s1-1))),.k 11 (.int .u8 (bShr .u8 a0 (IntKind.i64.wrap (s1-1)))),.k 12 (.int .u8 a0),.k 13 (.int .i64 s1),.k 14 (.int .i64 (IntKind.i64.wrap (s1+2))),.k 15 (.int .u8 (bShr .u8 a0 (IntKind.i64.wrap (s1+2))))] [[],[],[1],[0,2],[],[],[5],[4,6]] [] [0,1,2,3,4,5,6,7] Try_mixed rfl rfl rfl h1 (.cons ?_ (.cons ?_ (.cons ?_ (.cons ?_ (.cons ?_ (.cons ?_ (.cons ?_ (.cons ?_ .nil)))))))) (λ q1 w hq1 h=>?_)
  ·intro q1 w Γx Ωx h
   refine OpS.mv rfl rfl rfl ?_
   exact du h
  ·intro q1 w Γx Ωx h
   refine OpS.mv rfl rfl rfl ?_
   exact du h
  ·intro q1 w Γx Ωx h
   refine OpS.bin rfl rfl rfl rfl rfl ?_
   exact du h
  ·intro q1 w Γx Ωx h
   refine OpS.shr rfl rfl rfl rfl e2 ?_
   exact du h
  ·intro q1 w Γx Ωx h
   refine OpS.mv rfl rfl rfl ?_
   exact du h
  ·intro q1 w Γx Ωx h
   refine OpS.mv rfl rfl rfl ?_
   exact du h
  ·intro q1 w Γx Ωx h
   refine OpS.bin rfl rfl rfl rfl rfl ?_
   exact du h
  ·intro q1 w Γx Ωx h
   refine OpS.shr rfl rfl rfl rfl e3 ?_
   exact du h
  have h2:=h
  refine gb rfl (gb rfl (gb rfl (nil ?_)))
  refine Run.ite rfl hF (λ e4 hF=>?_) (λ e4 hF=>?_)
  ·refine sr (gm rfl (ga rfl (nil (Run.retP rfl (.tmp rfl .nil) ?_))))
   cases hF
   exact Post.mk' ⟨rfl,rfl,rfl,rfl⟩ (h2.picks .nil) .nil
  refine Run.skip (Run.endBlock (Run.reg (gm rfl (gb rfl (ga rfl ?_)))))
  obtain ⟨x1,e5,hF⟩:=letP_use hF
  refine RunL.name e5 ?_
  refine nil (Run.slim [(0,.int .u8 a0),(3,.int .i64 x1)] ⟨rfl,rfl,trivial⟩ ?_)
  exact hk1 (x1) _ _ ⟨rfl,(h2.facts .nil).picks .nil⟩ hF
 refine Run.exit rfl ?_
 refine sr (ga rfl (nil (Run.retP rfl (.tmp rfl .nil) ?_)))
 cases hF
 exact Post.mk' ⟨rfl,rfl,rfl,rfl⟩ (h1.picks .nil) .nil
theorem entity_Health_1_ok {fuel:Nat} {a0:Condition_} {y:Bool} (hF:entity_Health_1 fuel a0=some y) {w:World} {v0:Value} :
  Spec Tryz.prog 168 [v0].toArray w [(false,.val Condition_.rep v0 a0)] [] (λ v Γr Ωr Ωo=>v=.bool y∧Γr=[]∧Ωr=[]∧Ωo=[]):=by
 refine Spec.of (L:=[(0,v0)]) Tryz.func168 rfl ⟨rfl,trivial⟩ rfl (λ e h=>?_)
 unfold entity_Health_1 at hF
 refine sr (op (OpS.boxF h rfl rfl rfl (V.at .z) (λ u1 w1 h1=>?_)))
 refine ga rfl (nil (sr (op (OpS.fbox (o3:=2) h1 .z PA.z fa215_1 rfl rfl rfl rfl ?_))))
 refine op (OpS.loadBi h1 .z PA.a (Get.fld Condition_.f1) ty3 rfl rfl rfl ?_)
 refine gb rfl (gm rfl ?_)
 refine RunL.caseb hF (λ e1 hF=>?_) (λ e1 hF=>?_)
 ·refine gp rfl (gp rfl (gp rfl (gk rfl (ga rfl (nil (Run.retP rfl (.tmp rfl .nil) ?_))))))
  cases hF
  exact Post.mk' ⟨rfl,rfl,rfl,rfl⟩ (h1.picks .nil) .nil
 refine op (OpS.fbox (o3:=2) h1 .z PA.z fa215_1 rfl rfl rfl rfl ?_)
 refine op (OpS.loadBi h1 .z PA.a (Get.fld Condition_.f1) ty3 rfl rfl rfl ?_)
 refine gb rfl (gk rfl (ga rfl ?_))
 obtain ⟨x1,e2,hF⟩:=letP_use hF
 refine RunL.nameb e2 ?_
 refine nil (Run.retP rfl (.tmp rfl .nil) ?_)
 cases hF
 exact Post.mk' ⟨rfl,rfl,rfl,rfl⟩ (h1.picks .nil) .nil
theorem cmp_isNaN_uint8_ok {fuel:Nat} {a0:Int} {y:Bool} (hF:cmp_isNaN_uint8 fuel a0=some y) {w:World} :
  Spec Tryz.prog 248 [.int .u8 a0].toArray w [] [] (λ v Γr Ωr Ωo=>v=.bool y∧Γr=[]∧Ωr=[]∧Ωo=[]):=by
 refine Spec.of (L:=[(0,.int .u8 a0)]) Tryz.func248 rfl ⟨rfl,trivial⟩ rfl (λ e h=>?_)
 unfold cmp_isNaN_uint8 at hF
 refine sr (ga rfl (nil (sr (gm rfl (gm rfl (gb rfl (ga rfl ?_)))))))
 obtain ⟨x1,e1,hF⟩:=letP_use hF
 refine RunL.nameb e1 ?_
 refine nil (Run.retP rfl (.tmp rfl .nil) ?_)
 cases hF
 exact Post.mk' ⟨rfl,rfl,rfl,rfl⟩ (h.picks .nil) .nil
theorem cmp_Compare_uint8_ok {fuel:Nat} {a0:Int} {a1:Int} {y:Int} (hF:cmp_Compare_uint8 fuel a0 a1=some y) {w:World} :
  Spec Tryz.prog 221 [.int .u8 a0,.int .u8 a1].toArray w [] [] (λ v Γr Ωr Ωo=>v=.int .i64 y∧Γr=[]∧Ωr=[]∧Ωo=[]):=by
 refine Spec.of (L:=[(0,.int .u8 a0),(1,.int .u8 a1)]) Tryz.func221 rfl ⟨rfl,rfl,trivial⟩ rfl (λ e h=>?_)
 unfold cmp_Compare_uint8 at hF
 refine sr (ga rfl (nil (sr (gm rfl ?_))))
 obtain ⟨y1,e1,hF⟩:=bindP_use hF
 refine op (OpS.callP h Tryz.func248 rfl rfl rfl rfl (vs:=[.int .u8 a0]) rfl (cmp_isNaN_uint8_ok e1) .nil ?_)
 rintro _ w1 _ _ _ ⟨rfl,rfl,rfl,rfl⟩ h1
 have h2:=h1 rfl rfl
 simp only [ca,na] at h2
 refine ga rfl (nil (sr (gm rfl ?_)))
 obtain ⟨y2,e2,hF⟩:=bindP_use hF
 refine op (OpS.callP h2 Tryz.func248 rfl rfl rfl rfl (vs:=[.int .u8 a1]) rfl (cmp_isNaN_uint8_ok e2) .nil ?_)
 rintro _ w2 _ _ _ ⟨rfl,rfl,rfl,rfl⟩ h3
 have h4:=h3 rfl rfl
 simp only [ca,na] at h4
 refine ga rfl (nil (Run.seq (sr (gm rfl (nil ?_)))))
 refine Run.ite rfl hF (λ e3 hF=>?_) (λ e3 hF=>?_)
 ·refine Run.seq (sr (gm rfl (nil ?_)))
  refine Run.ite rfl hF (λ e4 hF=>?_) (λ e4 hF=>?_)
  ·refine sr (ga rfl (nil (Run.retP rfl (.tmp rfl .nil) ?_)))
   cases hF
   exact Post.mk' ⟨rfl,rfl,rfl,rfl⟩ (h4.picks .nil) .nil
  refine Run.skip (sr (ga rfl (nil (Run.retP rfl (.tmp rfl .nil) ?_))))
  cases hF
  exact Post.mk' ⟨rfl,rfl,rfl,rfl⟩ (h4.picks .nil) .nil
 refine Run.skip (Run.seq (sr (gm rfl (nil ?_))))
 refine Run.ite rfl hF (λ e5 hF=>?_) (λ e5 hF=>?_)
 ·refine sr (ga rfl (nil (Run.retP rfl (.tmp rfl .nil) ?_)))
  cases hF
  exact Post.mk' ⟨rfl,rfl,rfl,rfl⟩ (h4.picks .nil) .nil
 refine Run.skip (Run.seq (sr (gm rfl (gm rfl (gb rfl (nil ?_))))))
 refine Run.ite rfl hF (λ e6 hF=>?_) (λ e6 hF=>?_)
 ·refine sr (ga rfl (nil (Run.retP rfl (.tmp rfl .nil) ?_)))
  cases hF
  exact Post.mk' ⟨rfl,rfl,rfl,rfl⟩ (h4.picks .nil) .nil
 refine Run.skip (Run.seq (sr (gm rfl (gm rfl (gb rfl (nil ?_))))))
 refine Run.ite rfl hF (λ e7 hF=>?_) (λ e7 hF=>?_)
 ·refine sr (ga rfl (nil (Run.retP rfl (.tmp rfl .nil) ?_)))
  cases hF
  exact Post.mk' ⟨rfl,rfl,rfl,rfl⟩ (h4.picks .nil) .nil
 refine Run.skip (sr (ga rfl (nil (Run.retP rfl (.tmp rfl .nil) ?_))))
 cases hF
 exact Post.mk' ⟨rfl,rfl,rfl,rfl⟩ (h4.picks .nil) .nil
theorem cmp_Or_int_ok {fuel:Nat} {a0:List Int} {y:Int} (hF:cmp_Or_int fuel a0=some y) {w:World} {v0:Value} :
  Spec Tryz.prog 220 [v0].toArray w [(false,.val (Rep.slice (Rep.int .i64)) v0 a0)] [] (λ v Γr Ωr Ωo=>v=.int .i64 y∧Γr=[]∧Ωr=[]∧Ωo=[]):=by
 refine Spec.of (L:=[(0,v0)]) Tryz.func220 rfl ⟨rfl,trivial⟩ rfl (λ e h=>?_)
 unfold cmp_Or_int at hF
 refine sr (ga rfl (nil (sr (ga rfl (nil (Run.seq (sr (gm rfl (op (OpS.len h Tryz.underlying22 rfl rfl rfl (V.at .z) ?_))))))))))
 refine gm rfl (nil (Run.block (Run.slim [(3,.int .i64 0),(6,v0),(7,.int .i64 (a0.length:Int)),(8,.int .i64 0)] ⟨rfl,rfl,rfl,rfl,trivial⟩ ?_)))
 refine Run.loopP (σ:=Int) (λ s_ L_ w_=>L_=[(3,.int .i64 0),(6,v0),(7,.int .i64 (a0.length:Int)),(8,.int .i64 s_)]∧St e w_ [(false,.val (Rep.slice (Rep.int .i64)) v0 a0)] []) hF ⟨rfl,(h.facts (.atm .z .nil)).picks .nil⟩ (λ k1 hk1 s1 _ w1 hI hF=>?_)
 obtain ⟨rfl,h1⟩:=hI
 refine sr (gb rfl (nil (Run.seq ?_)))
 refine Run.ite rfl hF (λ e1 hF=>?_) (λ e1 hF=>?_)
 ·refine Run.skip (Run.seq (Run.block (sr ?_)))
  obtain ⟨x1,e2,hF⟩:=bindP_use hF
  refine op (OpS.iptr h1 Tryz.underlying22 ty3 rfl rfl rfl rfl (V.at .z) e2 (λ u1 h2=>?_))
  refine op (OpS.loadi h2 ty3 rfl rfl rfl .z ?_)
  refine ga rfl (nil (sr (gm rfl (gm rfl (gb rfl (nil ?_))))))
  refine Run.ite rfl hF (λ e3 hF=>?_) (λ e3 hF=>?_)
  ·refine sr (gm rfl (ga rfl (nil (Run.retP rfl (.tmp rfl .nil) ?_))))
   cases hF
   exact Post.mk' ⟨rfl,rfl,rfl,rfl⟩ (h2.picks .nil) .nil
  refine Run.skip (Run.endBlock (Run.reg (gb rfl (gm rfl (nil (Run.slim [(3,.int .i64 0),(6,v0),(7,.int .i64 (a0.length:Int)),(8,.int .i64 (IntKind.i64.wrap (s1+1)))] ⟨rfl,rfl,rfl,rfl,trivial⟩ ?_))))))
  exact hk1 ((IntKind.i64.wrap (s1+1))) _ _ ⟨rfl,(h2.facts (.atm (.s .z) .nil)).picks .nil⟩ hF
 refine Run.exit rfl ?_
 refine sr (gm rfl (ga rfl (nil (Run.retP rfl (.tmp rfl .nil) ?_))))
 cases hF
 exact Post.mk' ⟨rfl,rfl,rfl,rfl⟩ (h1.picks .nil) .nil
set_option maxRecDepth 20000 in
theorem entity_within_1_ok {fuel:Nat} {a0:Entity_} {a1:Entity_} {y:Int} (hF:entity_within_1 fuel a0 a1=some y) {w:World} {v0 v1:Value} :
  Spec Tryz.prog 219 [v0,v1].toArray w [(false,.val Entity_.rep v0 a0),(false,.val Entity_.rep v1 a1)] [] (λ v Γr Ωr Ωo=>v=.int .i64 y∧Γr=[]∧Ωr=[]∧Ωo=[]):=by
 refine Spec.of (L:=[(0,v0),(1,v1)]) Tryz.func219 rfl ⟨rfl,rfl,trivial⟩ rfl (λ e h=>?_)
 unfold entity_within_1 at hF
 refine sr (op (OpS.boxF h rfl rfl rfl (V.at .z) (λ u1 w1 h1=>?_)))
 refine op (OpS.boxF h1 rfl rfl rfl (V.at (.s .z)) (λ u2 w2 h2=>?_))
 refine ga rfl (nil (Run.seq ?_))
 obtain ⟨y1,e1,hF⟩:=bindP_use hF
 refine Run.drawV (Ωs:=[]) [.kr 5 (padd u1 0) [1],.kr 6 (.int .u8 a0.ID) [1],.kr 7 (padd u2 0) [0],.kr 8 (.int .u8 a1.ID) [0],.k 9 (.int .i64 y1),.kr 10 (padd u1 1) [1],.kr 11 (.int .u8 a0.Instance) [1],.kr 12 (padd u2 1) [0],.kr 13 (.int .u8 a1.Instance) [0]] [[],[0],[],[2],[1,3],[],[5],[],[7]] [[(false,.box 66 Entity_.rep u2 a1)],[(false,.box 66 Entity_.rep u1 a0)]] [0,1,2,3,4,5,6,7,8,9,10] Try_mixed rfl rfl rfl h2 (.cons ?_ (.cons ?_ (.cons ?_ (.cons ?_ (.cons ?_ (.cons ?_ (.cons ?_ (.cons ?_ (.cons ?_ .nil))))))))) (λ q1 w hq1 h=>?_)
 ·intro q1 w Γx Ωx h
  refine OpS.fbox (o3:=0) h .z PA.z fa66_0 rfl rfl rfl rfl ?_
  exact du h
 ·intro q1 w Γx Ωx h
  refine OpS.loadBi h .z PA.a (Get.fld Entity_.f0) ty5 rfl rfl rfl ?_
  exact du h
 ·intro q1 w Γx Ωx h
  refine OpS.fbox (o3:=0) h .z PA.z fa66_0 rfl rfl rfl rfl ?_
  exact du h
 ·intro q1 w Γx Ωx h
  refine OpS.loadBi h .z PA.a (Get.fld Entity_.f0) ty5 rfl rfl rfl ?_
  exact du h
 ·intro q1 w Γx Ωx h
  refine OpS.callP h Tryz.func221 rfl rfl rfl rfl (vs:=[.int .u8 a0.ID,.int .u8 a1.ID]) rfl (cmp_Compare_uint8_ok e1) .nil ?_
  rintro _ w4 _ _ _ ⟨rfl,rfl,rfl,rfl⟩ h5
  have h6:=h5 rfl rfl
  simp only [ca,na] at h6
  exact ⟨undef,rfl,trivial,h6⟩
 ·intro q1 w Γx Ωx h
  refine OpS.fbox (o3:=1) h .z PA.z fa66_1 rfl rfl rfl rfl ?_
  exact du h
 ·intro q1 w Γx Ωx h
  refine OpS.loadBi h .z PA.a (Get.fld Entity_.f1) ty5 rfl rfl rfl ?_
  exact du h
 ·intro q1 w Γx Ωx h
  refine OpS.fbox (o3:=1) h .z PA.z fa66_1 rfl rfl rfl rfl ?_
  exact du h
 ·intro q1 w Γx Ωx h
  refine OpS.loadBi h .z PA.a (Get.fld Entity_.f1) ty5 rfl rfl rfl ?_
  exact du h
 have h7:=h
 obtain ⟨y2,e2,hF⟩:=bindP_use hF
 refine op (OpS.callP h7 Tryz.func221 rfl rfl rfl rfl (vs:=[.int .u8 a0.Instance,.int .u8 a1.Instance]) rfl (cmp_Compare_uint8_ok e2) .nil ?_)
 rintro _ w5 _ _ _ ⟨rfl,rfl,rfl,rfl⟩ h8
 have h9:=h8 rfl rfl
 simp only [ca,na] at h9
 refine op (OpS.lit (r:=(Rep.int .i64)) (f:=true) h9 Tryz.underlying22 ti3 rfl rfl rfl rfl rfl (.cons rfl V.int (.cons rfl V.int .nil)) rfl rfl (λ u3 w6 h10=>?_))
 obtain ⟨y3,e3,hF⟩:=bindP_use hF
 refine op (OpS.callP h10 Tryz.func220 rfl rfl rfl rfl (vs:=[u3]) rfl (cmp_Or_int_ok e3) (.cons (f:=true) (V.at .z) .nil) ?_)
 rintro _ w7 _ _ _ ⟨rfl,rfl,rfl,rfl⟩ h11
 have h12:=h11 rfl rfl
 simp only [ca,na] at h12
 refine ga rfl (nil (Run.retP rfl (.tmp rfl .nil) ?_))
 cases hF
 exact Post.mk' ⟨rfl,rfl,rfl,rfl⟩ (h12.picks .nil) .nil
end Lift
