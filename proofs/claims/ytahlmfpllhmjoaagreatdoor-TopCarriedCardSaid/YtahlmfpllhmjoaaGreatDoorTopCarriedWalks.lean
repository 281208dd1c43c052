import Derived.Test.YtahlmfpllhmjoaaGreatDoorTopCarriedWalksD
set_option linter.unusedVariables false
set_option linter.unusedSimpArgs false
namespace Lift
open Go Go.Proofs
open RunL (op sr nil gm ga gb gp gk dp du)
abbrev Gqs:Bool×Atom:=(false,.ptr (Rep.arr 6 (Rep.int .u8)) (.pointer (some ⟨0,0,none⟩)) ([0,2,4,7,9,11]))
set_option maxHeartbeats 8000000 in set_option maxRecDepth 20000 in
theorem top_TopCarried_ok {fuel:Nat} {a0:List Int} {a1:List Fault_} {a2:Int} {a3:Int} {y:Bool} (hF:top_TopCarried fuel a0 a1 a2 a3=some y) {w:World} {v0 v1:Value} :
  Spec Tryz.prog 8 [v0,v1,.int .i64 a2,.int .i64 a3].toArray w [(false,.val (Rep.slice (Rep.int .i64)) v0 a0),(false,.val (Rep.slice Fault_.rep) v1 a1),Gqs] [] (λ v Γr Ωr Ωo=>v=.bool y∧Γr=[]∧Ωr=[]∧Ωo=[]):=by
 refine Spec.of (L:=[(0,v0),(1,v1),(2,.int .i64 a2),(3,.int .i64 a3)]) Tryz.func8 rfl ⟨rfl,rfl,rfl,rfl,trivial⟩ rfl (λ e h=>?_)
 unfold top_TopCarried at hF
 refine sr (ga rfl (nil (Run.seq (sr ?_))))
 obtain ⟨y1,e1,hF⟩:=bindP_use hF
 refine op (OpS.callP h Tryz.func9 rfl rfl rfl rfl (vs:=[]) rfl (top_first_ok e1) (.ptr (.s (.s .z)) .nil) ?_)
 rintro _ w1 _ _ _ ⟨rfl,rfl,rfl,rfl⟩ h1
 have h2:=h1 rfl rfl
 simp only [ca,na] at h2
 refine op (OpS.not rfl rfl rfl ?_)
 refine nil ?_
 refine Run.ite rfl hF (λ e2 hF=>?_) (λ e2 hF=>?_)
 ·refine sr (ga rfl (nil (Run.retP rfl (.tmp rfl .nil) ?_)))
  cases hF
  exact Post.mk' ⟨rfl,rfl,rfl,rfl⟩ (h2.picks .nil) .nil
 refine Run.skip (Run.seq (sr (gm rfl ?_)))
 obtain ⟨y2,e3,hF⟩:=bindP_use hF
 refine op (OpS.callP h2 Tryz.func10 rfl rfl rfl rfl (vs:=[v0]) rfl (made_Light_ok e3) (.cons (f:=false) (V.at .z) .nil) ?_)
 rintro _ w2 _ _ _ ⟨rfl,rfl,rfl,rfl⟩ h3
 have h4:=h3 rfl rfl
 simp only [ca,na] at h4
 refine op (OpS.not rfl rfl rfl ?_)
 refine gm rfl ?_
 refine RunL.join (σ:=Bool) (λ s_ L_ w_=>L_=[(0,v0),(1,v1),(2,.int .i64 a2),(3,.int .i64 a3),(54,.bool s_)]∧St e w_ [(false,.val (Rep.slice (Rep.int .i64)) v0 a0),(false,.val (Rep.slice Fault_.rep) v1 a1),Gqs] []) hF (λ s1 _ w3 hI hF=>?_) (λ j1 hj1 hF=>?_)
 ·obtain ⟨rfl,h5⟩:=hI
  refine Run.ite rfl hF (λ e4 hF=>?_) (λ e4 hF=>?_)
  ·refine sr (ga rfl (nil (Run.retP rfl (.tmp rfl .nil) ?_)))
   cases hF
   exact Post.mk' ⟨rfl,rfl,rfl,rfl⟩ (h5.picks .nil) .nil
  refine Run.skip (sr (gm rfl ?_))
  obtain ⟨y3,e5,hF⟩:=bindP_use hF
  refine op (OpS.callP h5 Tryz.func19 rfl rfl rfl rfl (vs:=[.int .i64 a2,.int .i64 8]) rfl (made_Mod_ok e5) .nil ?_)
  rintro _ w4 _ _ _ ⟨rfl,rfl,rfl,rfl⟩ h6
  have h7:=h6 rfl rfl
  simp only [ca,na] at h7
  refine gb rfl (ga rfl ?_)
  obtain ⟨x1,e6,hF⟩:=letP_use hF
  refine RunL.name e6 ?_
  refine nil (sr (gm rfl ?_))
  obtain ⟨y4,e7,hF⟩:=bindP_use hF
  have h8:=h7.front .nil
  refine op (OpS.callO h8 Tryz.func12 rfl rfl rfl rfl (vs:=[v0]) rfl (made_Roll_ok e7) rfl (.cons (f:=false) (V.at .z) .nil) ?_)
  rintro u1 w5 _ _ _ ⟨_,rfl,rfl,rfl,rfl⟩ h9
  have h10:=h9
  simp only [ca,na] at h10
  refine ga rfl (nil (sr (gm rfl ?_)))
  obtain ⟨y5,e8,hF⟩:=bindP_use hF
  refine op (OpS.callP h10 Tryz.func52 rfl rfl rfl rfl (vs:=[.int .i64 x1]) rfl (bus_New_ok e8) .nil ?_)
  rintro _ w6 _ _ _ ⟨u2,rfl,rfl,rfl,rfl⟩ h11
  have h12:=h11 rfl rfl
  simp only [ca,na] at h12
  refine gm rfl (op (OpS.ext rfl rfl rfl rfl ?_))
  refine op (OpS.ext rfl rfl rfl rfl ?_)
  refine ga rfl (ga rfl (nil (sr ?_)))
  obtain ⟨y6,e9,hF⟩:=bindP_use hF
  refine op (OpS.callP h12 Tryz.func53 rfl rfl rfl rfl (vs:=[.int .u8 9]) rfl (fragment_New_ok e9) .nil ?_)
  rintro _ w7 _ _ _ ⟨u3,rfl,rfl,rfl,rfl⟩ h13
  have h14:=h13 rfl rfl
  simp only [ca,na] at h14
  refine gm rfl (op (OpS.ext rfl rfl rfl rfl ?_))
  refine op (OpS.ext rfl rfl rfl rfl ?_)
  refine ga rfl (ga rfl (nil (Run.seq (sr (gm rfl (op (OpS.onilE2 h14 (.s .z) (λ _=>PtrOf.ex λ _=>PtrOf.sep PtrOf.box) Tryz.underlying120 rfl rfl rfl rfl ?_)))))))
  refine gm rfl ?_
  refine RunL.join (σ:=Bool) (λ s_ L_ w_=>L_=[(1,v1),(3,.int .i64 a3),(9,.int .i64 x1),(10,u1),(11,u2),(13,u3),(82,.bool s_)]∧St e w_ [(false,.val (Rep.slice Fault_.rep) v1 a1),Gqs] [(false,.box 163 made_Dice.rep u1 y4),(true,.opt (bus_Bus.mem u2) u2 y5.1),(true,.opt (fragment_Assembler.mem u3) u3 y6.1)]) hF (λ s2 _ w8 hI hF=>?_) (λ j2 hj2 hF=>?_)
  ·obtain ⟨rfl,h15⟩:=hI
   refine Run.ite rfl hF (λ e10 hF=>?_) (λ e10 hF=>?_)
   ·refine sr (ga rfl (nil (Run.retP rfl (.tmp rfl .nil) ?_)))
    cases hF
    exact Post.mk' ⟨rfl,rfl,rfl,rfl⟩ (h15.picks .nil) .nil
   refine Run.skip (sr (gm rfl ?_))
   obtain ⟨x2,e11,hF⟩:=bindP_use hF
   refine op (OpS.make (r:=(Rep.raw (α:=List Message_) (.slice none 0 0))) h15 Tryz.underlying126 ti143 rfl rfl (Zr.raw rfl ([]:List Message_)) rfl rfl rfl rfl e11 (by simp) (mk_fits e11) rfl (λ u4 w9 h16=>?_))
   have h17:=St.upD (r:=Nest_sapi_Message.orep) h16 rfl (λ x_ hx_=>by obtain ⟨_,_,rfl⟩:=mk_some e11;rw [List.eq_of_mem_replicate hx_];exact Nest_sapi_Message.joW Jo.nil)
   refine ga rfl (nil (sr (gm rfl ?_)))
   obtain ⟨x3,e12,hF⟩:=bindP_use hF
   refine op (OpS.make (r:=(Rep.raw (α:=List Message_) (.slice none 0 0))) h17 Tryz.underlying126 ti143 rfl rfl (Zr.raw rfl ([]:List Message_)) rfl rfl rfl rfl e12 (by simp) (mk_fits e12) rfl (λ u5 w10 h18=>?_))
   have h19:=St.upD (r:=Nest_sapi_Message.orep) h18 rfl (λ x_ hx_=>by obtain ⟨_,_,rfl⟩:=mk_some e12;rw [List.eq_of_mem_replicate hx_];exact Nest_sapi_Message.joW Jo.nil)
   refine ga rfl (nil (sr (gm rfl ?_)))
   obtain ⟨x4,e13,hF⟩:=bindP_use hF
   refine op (OpS.make h19 Tryz.underlying127 ti4 rfl rfl (Zr.bool false) rfl rfl rfl rfl e13 (by simp) (mk_fits e13) rfl (λ u6 w11 h20=>?_))
   refine ga rfl (nil (Run.seq (sr (ga rfl (nil (Run.block ?_))))))
   have h21:=(h20.pick (.s (.s (.s (.s .z))))).weak
   refine Run.slim [(1,v1),(3,.int .i64 a3),(9,.int .i64 x1),(10,u1),(11,u2),(13,u3),(15,u4),(16,u5),(17,u6),(18,.int .i64 0)] ⟨rfl,rfl,rfl,rfl,rfl,rfl,rfl,rfl,rfl,rfl,trivial⟩ ?_
   refine Run.loopP (σ:=(Int×made_Dice×(List (List Message_))×(Option bus_Bus))) (λ s_ L_ w_=>∃ u0_:Value,L_=[(1,v1),(3,.int .i64 a3),(9,.int .i64 x1),(10,u1),(11,u0_),(13,u3),(15,u4),(16,u5),(17,u6),(18,.int .i64 s_.1)]∧St e w_ [(false,.val (Rep.slice Fault_.rep) v1 a1),Gqs] [(false,.box 163 made_Dice.rep u1 s_.2.1),(true,.opt (fragment_Assembler.mem u3) u3 y6.1),(true,.oval (oslice 143 1 (λ _=>Nest_sapi_Message.orep)) u4 s_.2.2.1),(true,.oval (oslice 143 1 (λ _=>Nest_sapi_Message.orep)) u5 x3),(true,.slice 4 Rep.bool u6 x4),(false,.opt (bus_Bus.mem u0_) u0_ s_.2.2.2)]) hF ⟨u2,rfl,(h21.facts (.atm .z (.atm (.s .z) .nil))).picks (.cons (.s (.s (.s (.s .z)))) (.cons (.s (.s (.s (.s .z)))) (.cons (.s (.s (.s .z))) (.cons (.s (.s .z)) (.cons (.s .z) (.cons .z .nil))))))⟩ (λ k1 hk1 s3 _ w12 hI hF=>?_)
   obtain ⟨u7,rfl,h22⟩:=hI
   refine Run.seq (sr (gm rfl (gm rfl (gb rfl (nil ?_)))))
   refine Run.ite rfl hF (λ e14 hF=>?_) (λ e14 hF=>?_)
   ·refine Run.skip (Run.seq (Run.block (sr (ga rfl (nil (sr (gm rfl ?_)))))))
    obtain ⟨y7,e15,hF⟩:=bindP_use hF
    have h23:=h22.front (.cons .z .nil)
    refine op (OpS.callO h23 Tryz.func54 rfl rfl rfl rfl (vs:=[u1,.int .i64 4]) rfl (made_Dice_Next_ok e15) rfl .nil ?_)
    rintro _ w13 _ _ _ ⟨rfl,rfl,rfl,rfl⟩ h24
    have h25:=h24
    simp only [ca,na] at h25
    refine ga rfl (nil (Run.block (Run.slim [(1,v1),(3,.int .i64 a3),(9,.int .i64 x1),(10,u1),(11,u7),(13,u3),(15,u4),(16,u5),(17,u6),(18,.int .i64 s3.1),(19,.int .i64 16),(20,.int .i64 y7.1)] ⟨rfl,rfl,rfl,rfl,rfl,rfl,rfl,rfl,rfl,rfl,rfl,rfl,trivial⟩ ?_)))
    refine Run.loopP (σ:=(Int×Int×made_Dice×(List (List Message_))×(Option bus_Bus))) (λ s_ L_ w_=>∃ u0_:Value,L_=[(1,v1),(3,.int .i64 a3),(9,.int .i64 x1),(10,u1),(11,u0_),(13,u3),(15,u4),(16,u5),(17,u6),(18,.int .i64 s3.1),(19,.int .i64 s_.1),(20,.int .i64 s_.2.1)]∧St e w_ [(false,.val (Rep.slice Fault_.rep) v1 a1),Gqs] [(false,.box 163 made_Dice.rep u1 s_.2.2.1),(true,.opt (fragment_Assembler.mem u3) u3 y6.1),(true,.oval (oslice 143 1 (λ _=>Nest_sapi_Message.orep)) u4 s_.2.2.2.1),(true,.oval (oslice 143 1 (λ _=>Nest_sapi_Message.orep)) u5 x3),(true,.slice 4 Rep.bool u6 x4),(false,.opt (bus_Bus.mem u0_) u0_ s_.2.2.2.2)]) hF ⟨u7,rfl,(h25.facts (.atm .z (.atm (.s .z) .nil))).picks (.cons .z (.cons .z (.cons .z (.cons .z (.cons .z (.cons .z .nil))))))⟩ (λ k2 hk2 s4 _ w14 hI hF=>?_)
    obtain ⟨u8,rfl,h26⟩:=hI
    refine Run.seq (sr (gm rfl (gb rfl (nil ?_))))
    refine Run.ite rfl hF (λ e16 hF=>?_) (λ e16 hF=>?_)
    ·refine Run.skip (Run.seq (Run.block (sr (gm rfl ?_))))
     obtain ⟨y8,e17,hF⟩:=bindP_use hF
     have h27:=h26.front (.cons .z .nil)
     refine op (OpS.callO h27 Tryz.func55 rfl rfl rfl rfl (vs:=[u1,.bool false]) rfl (made_Dice_Message_ok e17) rfl .nil ?_)
     rintro u9 w15 _ _ _ ⟨_,rfl,rfl,rfl,rfl⟩ h28
     have h29:=h28
     simp only [ca,na] at h29
     refine op (OpS.alloc h29 ti130 Message_.zr rfl rfl (λ u10 w16 h30=>?_))
     refine op (OpS.storeB (f':=true) h30 .z PA.z Put.id ty130 rfl rfl rfl (V.at .z) (.inl rfl) (λ w17 h31=>?_))
     refine nil (sr (gm rfl (gb rfl (op (OpS.conv Tryz.underlying3 Tryz.underlying5 rfl rfl rfl ?_)))))
     refine op (OpS.fbox (o3:=1) h31 .z PA.z fa130_1 rfl rfl rfl rfl ?_)
     obtain ⟨d1,e18,hF⟩:=letP_use hF
     refine op (OpS.storeB (f':=true) h31 .z PA.a (Put.of (Put.fld Message_.f1) e18) ty5 rfl rfl rfl V.int (.inl rfl) (λ w18 h32=>?_))
     refine nil (sr (gm rfl ?_))
     obtain ⟨y9,e19,hF⟩:=bindP_use hF
     have h33:=h32.front (.cons (.s .z) .nil)
     refine op (OpS.callO h33 Tryz.func56 rfl rfl rfl rfl (vs:=[u1,.int .i64 20]) rfl (made_Dice_Bytes_ok e19) rfl .nil ?_)
     rintro u11 w19 _ _ _ ⟨_,rfl,rfl,rfl,rfl⟩ h34
     have h35:=h34
     simp only [ca,na] at h35
     refine op (OpS.fbox (o3:=8) h35 (.s (.s .z)) PA.z fa130_8 rfl rfl rfl rfl ?_)
     refine op (OpS.storeC (f':=true) (fr:=(Rep.raw u11)) (r':=(Rep.iso (λ s:Message_=>(s.To,s.From,s.Function,s.Command,s.ToUnit,s.FromUnit,s.Sequence,s.Code,s.Data,())) (Rep.prod (Rep.int .u8) (Rep.prod (Rep.int .u8) (Rep.prod (Rep.int .u8) (Rep.prod (Rep.int .u8) (Rep.prod (Rep.int .i64) (Rep.prod (Rep.int .i64) (Rep.prod (Rep.int .i64) (Rep.prod (Rep.int .u8) (Rep.prod (Rep.raw (α:=List Int) u11) Rep.unit))))))))))) (x':=d1) h35 (.s (.s .z)) PA.a (Chg.iso _ (Chg.there (Chg.there (Chg.there (Chg.there (Chg.there (Chg.there (Chg.there (Chg.there (Chg.here (Chg.id (by rfl)))))))))))) (Ty.like ty24 (by rfl) (by rfl)) rfl rfl rfl (V.raw (f:=true) (St.own1 h35 .z) d1.Data) (.inl rfl) (λ w20 h36=>?_))
     refine nil (sr (op (OpS.loadB (fr:=(Rep.iso (λ s:Message_=>(s.To,s.From,s.Function,s.Command,s.ToUnit,s.FromUnit,s.Sequence,s.Code,s.Data,())) (Rep.prod (Rep.int .u8) (Rep.prod (Rep.int .u8) (Rep.prod (Rep.int .u8) (Rep.prod (Rep.int .u8) (Rep.prod (Rep.int .i64) (Rep.prod (Rep.int .i64) (Rep.prod (Rep.int .i64) (Rep.prod (Rep.int .u8) (Rep.prod (Rep.raw (α:=List Int) u11) Rep.unit))))))))))) h36 .z PA.z (GetS.ok GetS.id) (Ty.like ty130 (by rfl) (by rfl)) rfl rfl rfl (λ u12 h37=>?_))))
     have h38:=(h37.pick (.s .z)).freeze
     have h39:=h38.pick .z
     have h40:=St.boxJ (r':=Message_.rep) (x':={ d1 with Data:=y9.1 }) h39 (λ _ _ hs_=>(Jn.iso _ (Jn.prod Jn.refl (Jn.prod Jn.refl (Jn.prod Jn.refl (Jn.prod Jn.refl (Jn.prod Jn.refl (Jn.prod Jn.refl (Jn.prod Jn.refl (Jn.prod Jn.refl (Jn.prod (Jn.raw ((V.at .z) _ _ hs_) rfl) Jn.refl)))))))))))
     have h41:=St.addV (f:=true) (r:=Message_.rep) (x:={ d1 with Data:=y9.1 }) h40 (V.jn (r:=(Rep.iso (λ s:Message_=>(s.To,s.From,s.Function,s.Command,s.ToUnit,s.FromUnit,s.Sequence,s.Code,s.Data,())) (Rep.prod (Rep.int .u8) (Rep.prod (Rep.int .u8) (Rep.prod (Rep.int .u8) (Rep.prod (Rep.int .u8) (Rep.prod (Rep.int .i64) (Rep.prod (Rep.int .i64) (Rep.prod (Rep.int .i64) (Rep.prod (Rep.int .u8) (Rep.prod (Rep.raw (α:=List Int) u11) Rep.unit))))))))))) (x:=d1) (V.at (.s .z)) rfl (λ _ _ hs_=>(Jn.iso _ (Jn.prod Jn.refl (Jn.prod Jn.refl (Jn.prod Jn.refl (Jn.prod Jn.refl (Jn.prod Jn.refl (Jn.prod Jn.refl (Jn.prod Jn.refl (Jn.prod Jn.refl (Jn.prod (Jn.raw ((V.at .z) _ _ hs_) rfl) Jn.refl))))))))))))
     obtain ⟨y10,e20,hF⟩:=bindP_use hF
     refine op (OpS.callP h41 Tryz.func57 rfl rfl rfl rfl (vs:=[u12]) rfl (message_Request_ok e20) (.cons (f:=true) (V.at .z) .nil) ?_)
     rintro _ w21 _ _ _ ⟨u13,rfl,rfl,rfl,rfl⟩ h42
     have h43:=h42 rfl rfl
     simp only [ca,na] at h43
     refine gm rfl (op (OpS.ext rfl rfl rfl rfl ?_))
     refine op (OpS.ext rfl rfl rfl rfl ?_)
     refine ga rfl ?_
     have h44:=(h43.pick .z).freeze
     refine ga rfl (nil (sr (gm rfl (gb rfl (op (OpS.conv Tryz.underlying3 Tryz.underlying5 rfl rfl rfl ?_))))))
     refine gm rfl ?_
     obtain ⟨y11,e21,hF⟩:=bindP_use hF
     refine op (OpS.callP h44 Tryz.func19 rfl rfl rfl rfl (vs:=[.int .i64 a3,.int .i64 30]) rfl (made_Mod_ok e21) .nil ?_)
     rintro _ w22 _ _ _ ⟨rfl,rfl,rfl,rfl⟩ h45
     have h46:=h45 rfl rfl
     simp only [ca,na] at h46
     refine gb rfl (gm rfl ?_)
     obtain ⟨y12,e22,hF⟩:=bindP_use hF
     have h47:=h46.front .nil
     refine op (OpS.callO h47 Tryz.func58 rfl rfl rfl rfl (vs:=[.int .u8 9,.int .u8 (IntKind.u8.wrap (IntKind.i64.wrap (10+s3.1))),.bool true,.int .i64 1,.int .i64 (IntKind.i64.wrap (4+y11)),u13]) rfl (fragment_Split_ok e22) rfl (.cons (f:=true) (V.at .z) .nil) ?_)
     rintro _ w23 _ _ _ ⟨u14,rfl,rfl,rfl,rfl⟩ h48
     have h49:=h48
     simp only [ca,na] at h49
     refine gm rfl (op (OpS.ext rfl rfl rfl rfl ?_))
     refine op (OpS.ext rfl rfl rfl rfl ?_)
     refine ga rfl ?_
     have h50:=(h49.pick .z).freeze
     refine ga rfl (nil (Run.seq (sr (gm rfl (gb rfl (gm rfl ?_))))))
     refine RunL.join (σ:=Bool) (λ s_ L_ w_=>L_=[(1,v1),(3,.int .i64 a3),(9,.int .i64 x1),(10,u1),(11,u8),(13,u3),(15,u4),(16,u5),(17,u6),(18,.int .i64 s3.1),(19,.int .i64 s4.1),(20,.int .i64 s4.2.1),(21,u10),(23,.int .i64 y10.2),(24,u14),(25,.int .i64 y12.2),(136,.bool s_)]∧St e w_ [(false,.val (Rep.slice Fault_.rep) v1 a1),(false,.val (Rep.slice Packet_.rep) u14 y12.1),Gqs] [(false,.box 163 made_Dice.rep u1 y9.2),(false,.opt (bus_Bus.mem u8) u8 s4.2.2.2.2),(true,.opt (fragment_Assembler.mem u3) u3 y6.1),(true,.box 130 Message_.rep u10 ({ d1 with Data:=y9.1 })),(true,.oval (oslice 143 1 (λ _=>Nest_sapi_Message.orep)) u4 s4.2.2.2.1),(true,.oval (oslice 143 1 (λ _=>Nest_sapi_Message.orep)) u5 x3),(true,.slice 4 Rep.bool u6 x4)]) hF (λ s5 _ w24 hI hF=>?_) (λ j3 hj3 hF=>?_)
     ·obtain ⟨rfl,h51⟩:=hI
      refine Run.ite rfl hF (λ e23 hF=>?_) (λ e23 hF=>?_)
      ·refine sr (gm rfl (gb rfl (gm rfl ?_)))
       refine RunL.join (σ:=Bool) (λ s_ L_ w_=>L_=[(8,.bool s_)]∧St e w_ [Gqs] []) hF (λ s6 _ w25 hI hF=>?_) (λ j4 hj4 hF=>?_)
       ·obtain ⟨rfl,h52⟩:=hI
        refine Run.retP rfl (.tmp rfl .nil) ?_
        cases hF
        exact Post.mk' ⟨rfl,rfl,rfl,rfl⟩ (h52.picks .nil) .nil
       refine RunL.caseb hF (λ e24 hF=>?_) (λ e24 hF=>?_)
       ·refine gm rfl (gb rfl (gk rfl (ga rfl ?_)))
        obtain ⟨x5,e25,hF⟩:=letP_use hF
        refine RunL.nameb e25 ?_
        refine nil (Run.slim [(8,.bool x5)] ⟨rfl,trivial⟩ ?_)
        exact hj4 (x5) _ _ ⟨rfl,(h51.facts (.atm (.s (.s .z)) .nil)).picks .nil⟩ hF
       refine gp rfl (gp rfl (gk rfl (ga rfl (nil (Run.slim [(8,.bool false)] ⟨rfl,trivial⟩ ?_)))))
       exact hj4 (false) _ _ ⟨rfl,(h51.facts (.atm (.s (.s .z)) .nil)).picks .nil⟩ hF
      refine Run.skip (sr (gm rfl (gm rfl (op (OpS.len h51 Tryz.underlying134 rfl rfl rfl (V.at (.s .z)) ?_)))))
      refine gb rfl (ga rfl ?_)
      obtain ⟨x6,e26,hF⟩:=letP_use hF
      refine RunL.name e26 ?_
      refine nil (Run.seq (sr (ga rfl (nil (Run.block (Run.slim [(1,v1),(3,.int .i64 a3),(9,.int .i64 x1),(10,u1),(11,u8),(13,u3),(15,u4),(16,u5),(17,u6),(18,.int .i64 s3.1),(19,.int .i64 x6),(20,.int .i64 s4.2.1),(21,u10),(24,u14),(26,.int .i64 0)] ⟨rfl,rfl,rfl,rfl,rfl,rfl,rfl,rfl,rfl,rfl,rfl,rfl,rfl,rfl,rfl,trivial⟩ ?_))))))
      refine Run.loopP (σ:=(Int×(Option bus_Bus))) (λ s_ L_ w_=>∃ u0_:Value,L_=[(1,v1),(3,.int .i64 a3),(9,.int .i64 x1),(10,u1),(11,u0_),(13,u3),(15,u4),(16,u5),(17,u6),(18,.int .i64 s3.1),(19,.int .i64 x6),(20,.int .i64 s4.2.1),(21,u10),(24,u14),(26,.int .i64 s_.1)]∧St e w_ [(false,.val (Rep.slice Fault_.rep) v1 a1),(false,.val (Rep.slice Packet_.rep) u14 y12.1),Gqs] [(false,.box 163 made_Dice.rep u1 y9.2),(true,.opt (fragment_Assembler.mem u3) u3 y6.1),(true,.box 130 Message_.rep u10 ({ d1 with Data:=y9.1 })),(true,.oval (oslice 143 1 (λ _=>Nest_sapi_Message.orep)) u4 s4.2.2.2.1),(true,.oval (oslice 143 1 (λ _=>Nest_sapi_Message.orep)) u5 x3),(true,.slice 4 Rep.bool u6 x4),(false,.opt (bus_Bus.mem u0_) u0_ s_.2)]) hF ⟨u8,rfl,(h51.facts (.atm .z (.atm (.s .z) (.atm (.s (.s .z)) .nil)))).picks (.cons .z (.cons (.s .z) (.cons (.s .z) (.cons (.s .z) (.cons (.s .z) (.cons (.s .z) (.cons .z .nil)))))))⟩ (λ k3 hk3 s7 _ w26 hI hF=>?_)
      obtain ⟨u15,rfl,h53⟩:=hI
      refine Run.seq (sr (gm rfl (gm rfl (op (OpS.len h53 Tryz.underlying134 rfl rfl rfl (V.at (.s .z)) ?_)))))
      refine gb rfl (nil ?_)
      refine Run.ite rfl hF (λ e27 hF=>?_) (λ e27 hF=>?_)
      ·refine Run.skip (Run.seq (Run.block (sr (gm rfl (gm rfl ?_)))))
       obtain ⟨x7,e28,hF⟩:=bindP_use hF
       refine op (OpS.iptr h53 Tryz.underlying134 ty139 rfl rfl rfl rfl (V.at (.s .z)) e28 (λ u16 h54=>?_))
       refine op (OpS.load h54 ty139 rfl rfl rfl .z (λ u17 h55=>?_))
       obtain ⟨y13,e29,hF⟩:=bindP_use hF
       refine op (OpS.callP h55 Tryz.func59 rfl rfl rfl rfl (vs:=[u17]) rfl (fragment_Encode_ok e29) (.cons (f:=false) (V.at .z) .nil) ?_)
       rintro _ w27 _ _ _ ⟨u18,rfl,rfl,rfl,rfl⟩ h56
       have h57:=h56 rfl rfl
       simp only [ca,na] at h57
       refine gm rfl (op (OpS.ext rfl rfl rfl rfl ?_))
       refine op (OpS.ext rfl rfl rfl rfl ?_)
       refine ga rfl ?_
       have h58:=(h57.pick .z).freeze
       refine ga rfl (nil (sr (gm rfl (gb rfl (gm rfl ?_)))))
       refine RunL.join (σ:=(Bool×(Option bus_Bus))) (λ s_ L_ w_=>∃ u0_:Value,L_=[(1,v1),(3,.int .i64 a3),(9,.int .i64 x1),(10,u1),(11,u0_),(13,u3),(15,u4),(16,u5),(17,u6),(18,.int .i64 s3.1),(19,.int .i64 x6),(20,.int .i64 s4.2.1),(21,u10),(24,u14),(26,.int .i64 s7.1),(173,.bool s_.1)]∧St e w_ [(false,.val (Rep.slice Fault_.rep) v1 a1),(false,.val (Rep.slice Packet_.rep) u14 y12.1),Gqs] [(false,.box 163 made_Dice.rep u1 y9.2),(true,.opt (fragment_Assembler.mem u3) u3 y6.1),(true,.box 130 Message_.rep u10 ({ d1 with Data:=y9.1 })),(true,.oval (oslice 143 1 (λ _=>Nest_sapi_Message.orep)) u4 s4.2.2.2.1),(true,.oval (oslice 143 1 (λ _=>Nest_sapi_Message.orep)) u5 x3),(true,.slice 4 Rep.bool u6 x4),(false,.opt (bus_Bus.mem u0_) u0_ s_.2)]) hF (λ s8 _ w28 hI hF=>?_) (λ j5 hj5 hF=>?_)
       ·obtain ⟨u19,rfl,h59⟩:=hI
        refine Run.ite rfl hF (λ e30 hF=>?_) (λ e30 hF=>?_)
        ·refine sr (ga rfl (nil (Run.retP rfl (.tmp rfl .nil) ?_)))
         cases hF
         exact Post.mk' ⟨rfl,rfl,rfl,rfl⟩ (h59.picks .nil) .nil
        refine Run.skip (Run.endBlock (Run.reg (gm rfl (gb rfl (ga rfl ?_)))))
        obtain ⟨x8,e31,hF⟩:=letP_use hF
        refine RunL.name e31 ?_
        refine nil (Run.slim [(1,v1),(3,.int .i64 a3),(9,.int .i64 x1),(10,u1),(11,u19),(13,u3),(15,u4),(16,u5),(17,u6),(18,.int .i64 s3.1),(19,.int .i64 x6),(20,.int .i64 s4.2.1),(21,u10),(24,u14),(26,.int .i64 x8)] ⟨rfl,rfl,rfl,rfl,rfl,rfl,rfl,rfl,rfl,rfl,rfl,rfl,rfl,rfl,rfl,trivial⟩ ?_)
        exact hk3 (x8,s8.2) _ _ ⟨u19,rfl,(h59.facts (.atm .z (.atm (.s .z) (.atm (.s (.s .z)) .nil)))).picks (.cons .z (.cons .z (.cons .z (.cons .z (.cons .z (.cons .z (.cons .z .nil)))))))⟩ hF
       refine RunL.caseb hF (λ e32 hF=>?_) (λ e32 hF=>?_)
       ·refine gp rfl (gp rfl (gp rfl (gp rfl (gp rfl (gp rfl (gp rfl (gp rfl (gp rfl (gk rfl (nil (Run.slim [(1,v1),(3,.int .i64 a3),(9,.int .i64 x1),(10,u1),(11,u15),(13,u3),(15,u4),(16,u5),(17,u6),(18,.int .i64 s3.1),(19,.int .i64 x6),(20,.int .i64 s4.2.1),(21,u10),(24,u14),(26,.int .i64 s7.1),(173,.bool true)] ⟨rfl,rfl,rfl,rfl,rfl,rfl,rfl,rfl,rfl,rfl,rfl,rfl,rfl,rfl,rfl,rfl,trivial⟩ ?_)))))))))))
        exact hj5 (true,s7.2) _ _ ⟨u15,rfl,(h58.facts (.atm (.s (.s (.s .z))) (.atm (.s (.s (.s (.s .z)))) (.atm (.s (.s (.s (.s (.s .z))))) .nil)))).picks (.cons .z (.cons .z (.cons .z (.cons .z (.cons .z (.cons .z (.cons .z .nil)))))))⟩ hF
       refine gm rfl (gm rfl (gm rfl (gb rfl (op (OpS.conv Tryz.underlying3 Tryz.underlying5 rfl rfl rfl ?_)))))
       refine gm rfl (op (OpS.build (f:=true) (x':=(⟨16,(IntKind.u8.wrap (IntKind.i64.wrap (64+s3.1))),y13.1⟩:Frame_)) h58 pl142 ti142 Frame_.zr rfl rfl rfl (.cons rfl Frame_.f0 rfl V.int (.cons rfl Frame_.f1 rfl V.int (.cons rfl Frame_.f2 rfl (V.at .z) .nil))) (λ u20 h60=>?_)))
       obtain ⟨x9,e33,hF⟩:=bindP_use hF
       have h61:=St.unopt (h60.pick (.s (.s (.s (.s (.s (.s .z))))))) e33
       obtain ⟨u21,h62⟩:=h61.unex
       have h63:=h62.unsep
       obtain ⟨y14,e34,hF⟩:=bindP_use hF
       have h64:=h63.front (.cons .z (.cons .z .nil))
       refine op (OpS.callO h64 Tryz.func60 rfl rfl rfl rfl (vs:=[u15,.int .i64 s3.1,u20]) rfl (bus_Bus_Submit_ok e34) rfl (.cons (f:=true) (V.at .z) .nil) ?_)
       rintro _ w29 _ _ _ ⟨u22,rfl,rfl,rfl,rfl⟩ h65
       have h66:=h65
       simp only [ca,na] at h66
       refine gb rfl (gk rfl (nil ?_))
       have h67:=h66.front (.cons (.s .z) (.cons .z .nil))
       have h68:=St.sep (h67.pick (.s .z))
       have h69:=St.ex (H:=λ w0_=>.sep (.box 241 (bus_Bus.repW w0_) u15 y14.2) (.oval (oslice 256 3 (λ _=>bus_master.orep)) w0_ y14.2.masters)) u22 h68
       have h70:=St.some (H:=(bus_Bus.mem u15)) (q:=u15) (x:=y14.2) h69
       refine Run.slim [(1,v1),(3,.int .i64 a3),(9,.int .i64 x1),(10,u1),(11,u15),(13,u3),(15,u4),(16,u5),(17,u6),(18,.int .i64 s3.1),(19,.int .i64 x6),(20,.int .i64 s4.2.1),(21,u10),(24,u14),(26,.int .i64 s7.1),(173,.bool (y14.1 != 0))] ⟨rfl,rfl,rfl,rfl,rfl,rfl,rfl,rfl,rfl,rfl,rfl,rfl,rfl,rfl,rfl,rfl,trivial⟩ ?_
       exact hj5 (y14.1 != 0,(some y14.2)) _ _ ⟨u15,rfl,(h70.facts (.atm (.s (.s (.s (.s .z)))) (.atm (.s (.s (.s (.s (.s .z))))) (.atm (.s (.s (.s (.s (.s (.s .z)))))) .nil)))).picks (.cons (.s .z) (.cons (.s .z) (.cons (.s .z) (.cons (.s .z) (.cons (.s .z) (.cons (.s .z) (.cons .z .nil)))))))⟩ hF
      refine Run.exit rfl ?_
      have h71:=h53.picks (.cons (.s (.s .z)) (.cons (.s (.s .z)) (.cons .z (.cons .z (.cons .z (.cons .z (.cons .z .nil)))))))
      obtain ⟨x10,e35,hF⟩:=bindP_use hF
      obtain ⟨x11,e36,hF⟩:=bindP_use hF
      refine Run.drawV (Ωs:=[(false,.box 163 made_Dice.rep u1 y9.2),(true,.opt (fragment_Assembler.mem u3) u3 y6.1),(true,.oval (oslice 143 1 (λ _=>Nest_sapi_Message.orep)) u5 x3),(true,.slice 4 Rep.bool u6 x4),(false,.opt (bus_Bus.mem u15) u15 s7.2)]) [.k 174 u4,.k 175 (.int .i64 s3.1),.k 176 u4,.k 177 (.int .i64 s3.1),⟨some 178,some ((padd (sp u4) ((s3.1:Int).toNat*1))),λ _=>[],λ ds_ u_=>[],[],[(1,[5,4])],none⟩,⟨some 179,none,λ u_=>[],λ ds_ u_=>[(true,.oval (oslice 143 1 (at' (λ _=>Nest_sapi_Message.orep) (s3.1).toNat (Nest_sapi_Message.orepW (raw u_)))) u4 s4.2.2.2.1),(true,.oval (oslice 130 9 (λ _=>(sh Message_.rep))) u_ x10)],[1],[],none⟩,.fr 180 (λ u_=>[(true,.val Message_.rep u_ ({ d1 with Data:=y9.1 }))]) [0],.f 181 (λ u_=>[(true,.val (Rep.slice Message_.rep) u_ ([{ d1 with Data:=y9.1 }]))]),⟨some 182,none,λ u_=>[],λ ds_ u_=>[(true,.oval (oslice 143 1 (at' (λ _=>Nest_sapi_Message.orep) (s3.1).toNat (Nest_sapi_Message.orepW (raw (nth ds_ 0))))) u4 s4.2.2.2.1),(true,.oval (oslice 130 9 (λ _=>(sh Message_.rep))) u_ x11)],[7],[],none⟩] [[],[],[],[],[2,3],[4],[],[6],[5,7]] [[(true,.box 130 Message_.rep u10 ({ d1 with Data:=y9.1 }))],[(true,.oval (oslice 143 1 (λ _=>Nest_sapi_Message.orep)) u4 s4.2.2.2.1)]] [0,2,3,4,5,6,8,9,10] Try_mixed rfl rfl rfl h71 (.cons ?_ (.cons ?_ (.cons ?_ (.cons ?_ (.cons ?_ (.cons ?_ (.cons ?_ (.cons ?_ (.cons ?_ .nil))))))))) (λ q1 w hq1 h=>?_)
      ·intro q1 w Γx Ωx h
       refine OpS.mv rfl rfl rfl ?_
       exact du h
      ·intro q1 w Γx Ωx h
       refine OpS.mv rfl rfl rfl ?_
       exact du h
      ·intro q1 w Γx Ωx h
       refine OpS.mv rfl rfl rfl ?_
       exact du h
      ·intro q1 w Γx Ωx h
       refine OpS.mv rfl rfl rfl ?_
       exact du h
      ·intro q1 w Γx Ωx h
       refine OpS.iownD h .z Tryz.underlying126 sz143 rfl rfl rfl rfl e35 ?_
       exact du h
      ·intro q1 w Γx Ωx h
       refine OpS.openO (F':=λ v_=>at' (λ _=>Nest_sapi_Message.orep) (s3.1).toNat (Nest_sapi_Message.orepW (raw v_))) (hn:=λ _=>rfl) (hn':=λ _=>at_hn rfl rfl) h .z (idx_ne e35) PA.a (λ v_=>Len.comp (Len.arrOpen e35) (Nest_sapi_Message.lenO v_)) rfl ty143 rfl rfl rfl rfl (λ u h76=>?_)
       exact ⟨u,rfl,trivial,h76⟩
      ·intro q1 w Γx Ωx h
       refine OpS.loadB h .z PA.z Get.id ty130 rfl rfl rfl (λ u h77=>?_)
       exact ⟨u,rfl,trivial,h77⟩
      ·intro q1 w Γx Ωx h
       refine OpS.lit (r:=Message_.rep) (f:=true) h Tryz.underlying143 ti130 rfl rfl rfl rfl rfl (.cons rfl (V.at .z) .nil) rfl rfl (λ u w32 h78=>?_)
       exact ⟨u,rfl,trivial,h78⟩
      ·intro q1 w Γx Ωx h
       refine OpS.appD (fr:=Message_.rep) (f':=true) h (.s .z) Tryz.underlying143 ti130 rfl rfl rfl rfl rfl rfl rfl (V.at .z) (.inl rfl) e36 (λ u w33 h79=>?_)
       have h80:=h79.front (.cons (.s .z) (.cons .z (.cons .z (.cons .z (.cons .z (.cons .z (.cons .z .nil)))))))
       exact ⟨u,rfl,trivial,h80⟩
      have h81:=h
      refine op (OpS.iownD h81 (.s .z) Tryz.underlying126 sz143 rfl rfl rfl rfl e35 ?_)
      obtain ⟨d2,e37,hF⟩:=letP_use hF
      refine op (OpS.storePO (F:=(at' (λ _=>Nest_sapi_Message.orep) (s3.1).toNat (Nest_sapi_Message.orepW (raw (q1 5))))) (F2:=λ _=>Nest_sapi_Message.orep) (hn:=at_hn rfl rfl) (hn2:=λ _=>rfl) h81 (.s .z) (.s .z) (idx_ne e35) PA.a (Len.comp (Len.arrShut e35) (Nest_sapi_Message.lenC (q1 5))) ty143 rfl rfl rfl rfl (.inl rfl) (λ w34 h82=>?_))
      have h83:=St.termD (l':=d2) h82 e37
      refine nil (Run.endBlock (Run.reg (gm rfl (gb rfl (ga rfl ?_)))))
      obtain ⟨x12,e38,hF⟩:=letP_use hF
      refine RunL.name e38 ?_
      refine nil (Run.slim [(1,v1),(3,.int .i64 a3),(9,.int .i64 x1),(10,u1),(11,u15),(13,u3),(15,u4),(16,u5),(17,u6),(18,.int .i64 s3.1),(19,.int .i64 x6),(20,.int .i64 x12)] ⟨rfl,rfl,rfl,rfl,rfl,rfl,rfl,rfl,rfl,rfl,rfl,rfl,trivial⟩ ?_)
      exact hk2 (x6,x12,y9.2,d2,s7.2) _ _ ⟨u15,rfl,(h83.facts (.atm (.s (.s .z)) (.atm (.s (.s (.s (.s .z)))) .nil))).picks (.cons (.s (.s .z)) (.cons (.s (.s .z)) (.cons .z (.cons (.s .z) (.cons (.s .z) (.cons (.s .z) .nil))))))⟩ hF
     refine RunL.caseb hF (λ e39 hF=>?_) (λ e39 hF=>?_)
     ·refine gp rfl (gp rfl (gk rfl (gm rfl (gp rfl (gp rfl (gp rfl (gp rfl (gk rfl (nil (Run.slim [(136,.bool true),(25,.int .i64 y12.2),(24,u14),(23,.int .i64 y10.2),(21,u10),(1,v1),(3,.int .i64 a3),(9,.int .i64 x1),(10,u1),(11,u8),(13,u3),(15,u4),(16,u5),(17,u6),(18,.int .i64 s3.1),(19,.int .i64 s4.1),(20,.int .i64 s4.2.1)] ⟨rfl,rfl,rfl,rfl,rfl,rfl,rfl,rfl,rfl,rfl,rfl,rfl,rfl,rfl,rfl,rfl,rfl,trivial⟩ ?_))))))))))
      refine Run.slim [(1,v1),(3,.int .i64 a3),(9,.int .i64 x1),(10,u1),(11,u8),(13,u3),(15,u4),(16,u5),(17,u6),(18,.int .i64 s3.1),(19,.int .i64 s4.1),(20,.int .i64 s4.2.1),(21,u10),(23,.int .i64 y10.2),(24,u14),(25,.int .i64 y12.2),(136,.bool true)] ⟨rfl,rfl,rfl,rfl,rfl,rfl,rfl,rfl,rfl,rfl,rfl,rfl,rfl,rfl,rfl,rfl,rfl,trivial⟩ ?_
      exact hj3 (true) _ _ ⟨rfl,(h50.facts (.atm (.s (.s (.s (.s (.s (.s .z)))))) (.atm .z (.atm (.s (.s (.s (.s (.s (.s (.s .z))))))) .nil)))).picks (.cons (.s .z) (.cons (.s (.s (.s (.s (.s .z))))) (.cons (.s .z) (.cons .z (.cons .z (.cons .z (.cons .z .nil)))))))⟩ hF
     refine gm rfl (gb rfl (gk rfl (gm rfl ?_)))
     refine RunL.caseb hF (λ e40 hF=>?_) (λ e40 hF=>?_)
     ·refine gp rfl (gp rfl (gp rfl (gp rfl (gk rfl (nil (Run.slim [(136,.bool true),(25,.int .i64 y12.2),(24,u14),(23,.int .i64 y10.2),(21,u10),(1,v1),(3,.int .i64 a3),(9,.int .i64 x1),(10,u1),(11,u8),(13,u3),(15,u4),(16,u5),(17,u6),(18,.int .i64 s3.1),(19,.int .i64 s4.1),(20,.int .i64 s4.2.1)] ⟨rfl,rfl,rfl,rfl,rfl,rfl,rfl,rfl,rfl,rfl,rfl,rfl,rfl,rfl,rfl,rfl,rfl,trivial⟩ ?_))))))
      refine Run.slim [(1,v1),(3,.int .i64 a3),(9,.int .i64 x1),(10,u1),(11,u8),(13,u3),(15,u4),(16,u5),(17,u6),(18,.int .i64 s3.1),(19,.int .i64 s4.1),(20,.int .i64 s4.2.1),(21,u10),(23,.int .i64 y10.2),(24,u14),(25,.int .i64 y12.2),(136,.bool true)] ⟨rfl,rfl,rfl,rfl,rfl,rfl,rfl,rfl,rfl,rfl,rfl,rfl,rfl,rfl,rfl,rfl,rfl,trivial⟩ ?_
      exact hj3 (true) _ _ ⟨rfl,(h50.facts (.atm (.s (.s (.s (.s (.s (.s .z)))))) (.atm .z (.atm (.s (.s (.s (.s (.s (.s (.s .z))))))) .nil)))).picks (.cons (.s .z) (.cons (.s (.s (.s (.s (.s .z))))) (.cons (.s .z) (.cons .z (.cons .z (.cons .z (.cons .z .nil)))))))⟩ hF
     refine gm rfl (op (OpS.len h50 Tryz.underlying134 rfl rfl rfl (V.at .z) ?_))
     refine gm rfl (gb rfl (gk rfl (nil (Run.slim [(136,.bool (decide ((y12.1.length:Int)>s4.1))),(25,.int .i64 y12.2),(24,u14),(23,.int .i64 y10.2),(21,u10),(1,v1),(3,.int .i64 a3),(9,.int .i64 x1),(10,u1),(11,u8),(13,u3),(15,u4),(16,u5),(17,u6),(18,.int .i64 s3.1),(19,.int .i64 s4.1),(20,.int .i64 s4.2.1)] ⟨rfl,rfl,rfl,rfl,rfl,rfl,rfl,rfl,rfl,rfl,rfl,rfl,rfl,rfl,rfl,rfl,rfl,trivial⟩ ?_))))
     refine Run.slim [(1,v1),(3,.int .i64 a3),(9,.int .i64 x1),(10,u1),(11,u8),(13,u3),(15,u4),(16,u5),(17,u6),(18,.int .i64 s3.1),(19,.int .i64 s4.1),(20,.int .i64 s4.2.1),(21,u10),(23,.int .i64 y10.2),(24,u14),(25,.int .i64 y12.2),(136,.bool (decide ((y12.1.length:Int)>s4.1)))] ⟨rfl,rfl,rfl,rfl,rfl,rfl,rfl,rfl,rfl,rfl,rfl,rfl,rfl,rfl,rfl,rfl,rfl,trivial⟩ ?_
     exact hj3 (decide ((y12.1.length:Int)>s4.1)) _ _ ⟨rfl,(h50.facts (.atm (.s (.s (.s (.s (.s (.s .z)))))) (.atm .z (.atm (.s (.s (.s (.s (.s (.s (.s .z))))))) .nil)))).picks (.cons (.s .z) (.cons (.s (.s (.s (.s (.s .z))))) (.cons (.s .z) (.cons .z (.cons .z (.cons .z (.cons .z .nil)))))))⟩ hF
    refine Run.exit rfl ?_
    refine Run.endBlock (Run.reg (gm rfl (gb rfl (ga rfl ?_))))
    obtain ⟨x13,e41,hF⟩:=letP_use hF
    refine RunL.name e41 ?_
    refine nil (Run.slim [(1,v1),(3,.int .i64 a3),(9,.int .i64 x1),(10,u1),(11,u8),(13,u3),(15,u4),(16,u5),(17,u6),(18,.int .i64 x13)] ⟨rfl,rfl,rfl,rfl,rfl,rfl,rfl,rfl,rfl,rfl,trivial⟩ ?_)
    exact hk1 (x13,s4.2.2.1,s4.2.2.2.1,s4.2.2.2.2) _ _ ⟨u8,rfl,(h26.facts (.atm .z (.atm (.s .z) .nil))).picks (.cons .z (.cons .z (.cons .z (.cons .z (.cons .z (.cons .z .nil))))))⟩ hF
   refine Run.exit rfl ?_
   refine Run.seq (sr (ga rfl (nil ?_)))
   refine Run.join (σ:=((List (List Message_))×(List Bool)×(Option bus_Bus))) (λ s_ L_ w_=>∃ u0_:Value,L_=[(9,.int .i64 x1),(11,u0_),(15,u4),(16,u5),(17,u6)]∧St e w_ [Gqs] [(true,.oval (oslice 143 1 (λ _=>Nest_sapi_Message.orep)) u4 s3.2.2.1),(true,.oval (oslice 143 1 (λ _=>Nest_sapi_Message.orep)) u5 s_.1),(true,.slice 4 Rep.bool u6 s_.2.1),(false,.opt (bus_Bus.mem u0_) u0_ s_.2.2)]) hF (λ s9 _ w35 hI hF=>?_) (λ j6 hj6 hF=>?_)
   ·obtain ⟨u23,rfl,h84⟩:=hI
    refine Run.seq (sr (ga rfl (nil (Run.block ?_))))
    have h85:=St.freezeF (h84.pick .z) Nest_sapi_Message.rf
    have h86:=St.freezeF (h85.pick .z) Nest_sapi_Message.rf
    refine Run.slim [(9,.int .i64 x1),(11,u23),(15,u4),(16,u5),(17,u6),(43,.int .i64 0)] ⟨rfl,rfl,rfl,rfl,rfl,rfl,trivial⟩ ?_
    refine Run.loopP (σ:=((List (List Message_))×(List (List Message_))×Int×(Option bus_Bus))) (λ s_ L_ w_=>∃ u0_ u1_ u2_:Value,L_=[(9,.int .i64 x1),(11,u2_),(15,u0_),(16,u1_),(17,u6),(43,.int .i64 s_.2.2.1)]∧St e w_ [Gqs,(true,.val (Rep.slice (Rep.slice Message_.rep)) u0_ s_.1),(true,.val (Rep.slice (Rep.slice Message_.rep)) u1_ s_.2.1)] [(true,.slice 4 Rep.bool u6 s9.2.1),(false,.opt (bus_Bus.mem u2_) u2_ s_.2.2.2)]) hF ⟨u4,u5,u23,rfl,(h86.facts (.atm (.s (.s .z)) (.val (V.at (.s .z)) (.val (V.at .z) .nil)))).picks (.cons .z (.cons .z .nil))⟩ (λ k4 hk4 s10 _ w36 hI hF=>?_)
    obtain ⟨u24,u25,u26,rfl,h87⟩:=hI
    refine Run.seq (sr (gm rfl (gm rfl (gb rfl (nil ?_)))))
    refine Run.ite rfl hF (λ e42 hF=>?_) (λ e42 hF=>?_)
    ·refine Run.skip (Run.seq (Run.block (Run.seq (sr (gm rfl (gm rfl ?_))))))
     obtain ⟨x14,e43,hF⟩:=bindP_use hF
     have h88:=St.unopt (h87.pick (.s .z)) e43
     obtain ⟨u27,h89⟩:=h88.unex
     have h90:=h89.unsep
     obtain ⟨y15,e44,hF⟩:=bindP_use hF
     have h91:=h90.front (.cons .z (.cons .z .nil))
     refine op (OpS.callO h91 Tryz.func66 rfl rfl rfl rfl (vs:=[u26,.int .i64 s10.2.2.1]) rfl (bus_Bus_Pending_ok e44) rfl .nil ?_)
     rintro _ w37 _ _ _ ⟨rfl,rfl,rfl,rfl⟩ h92
     have h93:=h92
     simp only [ca,na] at h93
     refine gb rfl (nil ?_)
     refine Run.ite rfl hF (λ e45 hF=>?_) (λ e45 hF=>?_)
     ·refine sr (ga rfl (nil (Run.retP rfl (.tmp rfl .nil) ?_)))
      cases hF
      exact Post.mk' ⟨rfl,rfl,rfl,rfl⟩ (h93.picks .nil) .nil
     refine Run.skip (Run.seq (sr (gm rfl (gm rfl ?_))))
     obtain ⟨x15,e46,hF⟩:=bindP_use hF
     refine op (OpS.iown h93 (.s (.s .z)) Tryz.underlying127 ty4 rfl rfl rfl rfl e46 ?_)
     refine op (OpS.loadOb h93 (.s (.s .z)) (idx_ne e46) PA.a (Get.arr e46) ty4 rfl rfl rfl ?_)
     refine nil ?_
     refine Run.ite rfl hF (λ e47 hF=>?_) (λ e47 hF=>?_)
     ·refine Run.exit rfl ?_
      refine Run.reg (gm rfl (gb rfl (ga rfl ?_)))
      obtain ⟨x16,e48,hF⟩:=letP_use hF
      refine RunL.name e48 ?_
      refine nil ?_
      have h94:=h93.front (.cons (.s .z) (.cons .z .nil))
      have h95:=St.sep (h94.pick (.s .z))
      have h96:=St.ex (H:=λ w0_=>.sep (.box 241 (bus_Bus.repW w0_) u26 x14) (.oval (oslice 256 3 (λ _=>bus_master.orep)) w0_ x14.masters)) u27 h95
      have h97:=St.some (H:=(bus_Bus.mem u26)) (q:=u26) (x:=x14) h96
      refine Run.slim [(9,.int .i64 x1),(11,u26),(15,u24),(16,u25),(17,u6),(43,.int .i64 x16)] ⟨rfl,rfl,rfl,rfl,rfl,rfl,trivial⟩ ?_
      exact hk4 (s10.1,s10.2.1,x16,(some x14)) _ _ ⟨u24,u25,u26,rfl,(h97.facts (.atm .z (.val (V.at (.s .z)) (.val (V.at (.s (.s .z))) .nil)))).picks (.cons (.s .z) (.cons .z .nil))⟩ hF
     refine Run.skip (Run.seq (Run.seq ?_))
     obtain ⟨x17,e49,hF⟩:=bindP_use hF
     obtain ⟨x18,e50,hF⟩:=bindP_use hF
     refine Run.drawV (Ωs:=[(false,.box 241 (bus_Bus.repW u27) u26 x14),(false,.oval (oslice 256 3 (λ _=>bus_master.orep)) u27 x14.masters),(true,.slice 4 Rep.bool u6 s9.2.1)]) [.k 331 u25,.k 332 (.int .i64 s10.2.2.1),.f 333 (λ u_=>[(true,.ptr (Rep.slice Message_.rep) u_ x17)]),.f 334 (λ u_=>[(true,.val (Rep.slice Message_.rep) u_ x17)]),.k 335 (.int .i64 (x17.length:Int)),.k 336 u24,.k 337 (.int .i64 s10.2.2.1),.f 338 (λ u_=>[(true,.ptr (Rep.slice Message_.rep) u_ x18)]),.f 339 (λ u_=>[(true,.val (Rep.slice Message_.rep) u_ x18)]),.k 340 (.int .i64 (x18.length:Int))] [[],[],[0,1],[2],[3],[],[],[5,6],[7],[8]] [] [0,1,2,3,4,5,6,7,8,9] Try_mixed rfl rfl rfl h93 (.cons ?_ (.cons ?_ (.cons ?_ (.cons ?_ (.cons ?_ (.cons ?_ (.cons ?_ (.cons ?_ (.cons ?_ (.cons ?_ .nil)))))))))) (λ q2 w hq2 h=>?_)
     ·intro q2 w Γx Ωx h
      refine OpS.mv rfl rfl rfl ?_
      exact du h
     ·intro q2 w Γx Ωx h
      refine OpS.mv rfl rfl rfl ?_
      exact du h
     ·intro q2 w Γx Ωx h
      refine OpS.iptr h Tryz.underlying126 ty143 rfl rfl rfl rfl (V.at (.s (.s .z))) e49 (λ u h102=>?_)
      exact ⟨u,rfl,trivial,h102⟩
     ·intro q2 w Γx Ωx h
      refine OpS.load h ty143 rfl rfl rfl .z (λ u h103=>?_)
      exact ⟨u,rfl,trivial,h103⟩
     ·intro q2 w Γx Ωx h
      refine OpS.len h Tryz.underlying143 rfl rfl rfl (V.at .z) ?_
      exact du h
     ·intro q2 w Γx Ωx h
      refine OpS.mv rfl rfl rfl ?_
      exact du h
     ·intro q2 w Γx Ωx h
      refine OpS.mv rfl rfl rfl ?_
      exact du h
     ·intro q2 w Γx Ωx h
      refine OpS.iptr h Tryz.underlying126 ty143 rfl rfl rfl rfl (V.at (.s .z)) e50 (λ u h104=>?_)
      exact ⟨u,rfl,trivial,h104⟩
     ·intro q2 w Γx Ωx h
      refine OpS.load h ty143 rfl rfl rfl .z (λ u h105=>?_)
      exact ⟨u,rfl,trivial,h105⟩
     ·intro q2 w Γx Ωx h
      refine OpS.len h Tryz.underlying143 rfl rfl rfl (V.at .z) ?_
      exact du h
     have h106:=h
     refine gb rfl (nil ?_)
     refine Run.ite rfl hF (λ e51 hF=>?_) (λ e51 hF=>?_)
     ·refine sr (ga rfl (nil (Run.retP rfl (.tmp rfl .nil) ?_)))
      cases hF
      exact Post.mk' ⟨rfl,rfl,rfl,rfl⟩ (h106.picks .nil) .nil
     refine Run.skip (sr (ga rfl (nil (Run.block (Run.slim [(9,.int .i64 x1),(11,u26),(15,u24),(16,u25),(17,u6),(43,.int .i64 s10.2.2.1),(44,.int .i64 0)] ⟨rfl,rfl,rfl,rfl,rfl,rfl,rfl,trivial⟩ ?_)))))
     refine Run.loopP (σ:=Int) (λ s_ L_ w_=>L_=[(9,.int .i64 x1),(11,u26),(15,u24),(16,u25),(17,u6),(43,.int .i64 s10.2.2.1),(44,.int .i64 s_)]∧St e w_ [(true,.val (Rep.slice (Rep.slice Message_.rep)) u24 s10.1),(true,.val (Rep.slice (Rep.slice Message_.rep)) u25 s10.2.1),Gqs] [(false,.box 241 (bus_Bus.repW u27) u26 x14),(true,.slice 4 Rep.bool u6 s9.2.1),(false,.oval (oslice 256 3 (λ _=>bus_master.orep)) u27 x14.masters)]) hF ⟨rfl,(h106.facts (.atm (.s (.s (.s (.s (.s .z))))) (.atm (.s (.s (.s (.s (.s (.s .z)))))) (.atm (.s (.s (.s (.s .z)))) .nil)))).picks (.cons .z (.cons (.s .z) (.cons .z .nil)))⟩ (λ k5 hk5 s11 _ w38 hI hF=>?_)
     obtain ⟨rfl,h107⟩:=hI
     refine Run.seq (sr (gm rfl (gm rfl (gm rfl ?_))))
     obtain ⟨x19,e52,hF⟩:=bindP_use hF
     refine op (OpS.iptr h107 Tryz.underlying126 ty143 rfl rfl rfl rfl (V.at .z) e52 (λ u28 h108=>?_))
     refine op (OpS.load h108 ty143 rfl rfl rfl .z (λ u29 h109=>?_))
     refine op (OpS.len h109 Tryz.underlying143 rfl rfl rfl (V.at .z) ?_)
     refine gb rfl (nil ?_)
     refine Run.ite rfl hF (λ e53 hF=>?_) (λ e53 hF=>?_)
     ·refine Run.skip (Run.seq (Run.block (Run.seq ?_)))
      obtain ⟨x20,e54,hF⟩:=bindP_use hF
      obtain ⟨x21,e55,hF⟩:=bindP_use hF
      obtain ⟨x22,e56,hF⟩:=bindP_use hF
      obtain ⟨x23,e57,hF⟩:=bindP_use hF
      refine Run.drawV (Ωs:=[(false,.box 241 (bus_Bus.repW u27) u26 x14),(true,.slice 4 Rep.bool u6 s9.2.1),(false,.oval (oslice 256 3 (λ _=>bus_master.orep)) u27 x14.masters)]) [.k 351 u25,.k 352 (.int .i64 s10.2.2.1),.f 353 (λ u_=>[(true,.ptr (Rep.slice Message_.rep) u_ x20)]),.f 354 (λ u_=>[(true,.val (Rep.slice Message_.rep) u_ x20)]),.k 355 (.int .i64 s11),.f 356 (λ u_=>[(true,.ptr Message_.rep u_ x21)]),.f 357 (λ u_=>[(true,.val Message_.rep u_ x21)]),.k 358 u24,.k 359 (.int .i64 s10.2.2.1),.f 360 (λ u_=>[(true,.ptr (Rep.slice Message_.rep) u_ x22)]),.f 361 (λ u_=>[(true,.val (Rep.slice Message_.rep) u_ x22)]),.k 362 (.int .i64 s11),.f 363 (λ u_=>[(true,.ptr Message_.rep u_ x23)]),.f 364 (λ u_=>[(true,.val Message_.rep u_ x23)])] [[],[],[0,1],[2],[],[3,4],[5],[],[],[7,8],[9],[],[10,11],[12]] [] [0,1,2,3,4,5,6,7,8,9,10,11,12,13] Try_mixed rfl rfl rfl h109 (.cons ?_ (.cons ?_ (.cons ?_ (.cons ?_ (.cons ?_ (.cons ?_ (.cons ?_ (.cons ?_ (.cons ?_ (.cons ?_ (.cons ?_ (.cons ?_ (.cons ?_ (.cons ?_ .nil)))))))))))))) (λ q3 w hq3 h=>?_)
      ·intro q3 w Γx Ωx h
       refine OpS.mv rfl rfl rfl ?_
       exact du h
      ·intro q3 w Γx Ωx h
       refine OpS.mv rfl rfl rfl ?_
       exact du h
      ·intro q3 w Γx Ωx h
       refine OpS.iptr h Tryz.underlying126 ty143 rfl rfl rfl rfl (V.at (.s (.s (.s .z)))) e54 (λ u h118=>?_)
       exact ⟨u,rfl,trivial,h118⟩
      ·intro q3 w Γx Ωx h
       refine OpS.load h ty143 rfl rfl rfl .z (λ u h119=>?_)
       exact ⟨u,rfl,trivial,h119⟩
      ·intro q3 w Γx Ωx h
       refine OpS.mv rfl rfl rfl ?_
       exact du h
      ·intro q3 w Γx Ωx h
       refine OpS.iptr h Tryz.underlying143 ty130 rfl rfl rfl rfl (V.at .z) e55 (λ u h120=>?_)
       exact ⟨u,rfl,trivial,h120⟩
      ·intro q3 w Γx Ωx h
       refine OpS.load h ty130 rfl rfl rfl .z (λ u h121=>?_)
       exact ⟨u,rfl,trivial,h121⟩
      ·intro q3 w Γx Ωx h
       refine OpS.mv rfl rfl rfl ?_
       exact du h
      ·intro q3 w Γx Ωx h
       refine OpS.mv rfl rfl rfl ?_
       exact du h
      ·intro q3 w Γx Ωx h
       refine OpS.iptr h Tryz.underlying126 ty143 rfl rfl rfl rfl (V.at (.s (.s .z))) e56 (λ u h122=>?_)
       exact ⟨u,rfl,trivial,h122⟩
      ·intro q3 w Γx Ωx h
       refine OpS.load h ty143 rfl rfl rfl .z (λ u h123=>?_)
       exact ⟨u,rfl,trivial,h123⟩
      ·intro q3 w Γx Ωx h
       refine OpS.mv rfl rfl rfl ?_
       exact du h
      ·intro q3 w Γx Ωx h
       refine OpS.iptr h Tryz.underlying143 ty130 rfl rfl rfl rfl (V.at .z) e57 (λ u h124=>?_)
       exact ⟨u,rfl,trivial,h124⟩
      ·intro q3 w Γx Ωx h
       refine OpS.load h ty130 rfl rfl rfl .z (λ u h125=>?_)
       exact ⟨u,rfl,trivial,h125⟩
      have h126:=h
      obtain ⟨y16,e58,hF⟩:=bindP_use hF
      refine op (OpS.callP h126 Tryz.func67 rfl rfl rfl rfl (vs:=[(q3 6),(q3 13)]) rfl (ref23_Same_ok e58) (.cons (f:=true) (V.at (.s (.s (.s .z)))) (.cons (f:=true) (V.at (.s (.s (.s (.s (.s (.s (.s .z)))))))) .nil)) ?_)
      rintro _ w39 _ _ _ ⟨rfl,rfl,rfl,rfl⟩ h127
      have h128:=h127 rfl rfl
      simp only [ca,na] at h128
      refine op (OpS.not rfl rfl rfl ?_)
      refine nil ?_
      refine Run.ite rfl hF (λ e59 hF=>?_) (λ e59 hF=>?_)
      ·refine sr (ga rfl (nil (Run.retP rfl (.tmp rfl .nil) ?_)))
       cases hF
       exact Post.mk' ⟨rfl,rfl,rfl,rfl⟩ (h128.picks .nil) .nil
      refine Run.skip (Run.endBlock (Run.reg (gm rfl (gb rfl (ga rfl ?_)))))
      obtain ⟨x24,e60,hF⟩:=letP_use hF
      refine RunL.name e60 ?_
      refine nil (Run.slim [(9,.int .i64 x1),(11,u26),(15,u24),(16,u25),(17,u6),(43,.int .i64 s10.2.2.1),(44,.int .i64 x24)] ⟨rfl,rfl,rfl,rfl,rfl,rfl,rfl,trivial⟩ ?_)
      exact hk5 (x24) _ _ ⟨rfl,(h128.facts (.atm (.s (.s (.s (.s (.s (.s (.s (.s (.s (.s .z)))))))))) (.atm (.s (.s (.s (.s (.s (.s (.s (.s (.s (.s (.s .z))))))))))) (.atm (.s (.s (.s (.s (.s (.s (.s (.s (.s (.s (.s (.s .z)))))))))))) .nil)))).picks (.cons .z (.cons .z (.cons .z .nil)))⟩ hF
     refine Run.exit rfl ?_
     refine Run.endBlock (Run.reg (gm rfl (gb rfl (ga rfl ?_))))
     obtain ⟨x25,e61,hF⟩:=letP_use hF
     refine RunL.name e61 ?_
     refine nil ?_
     have h129:=h109.front (.cons (.s (.s .z)) (.cons .z .nil))
     have h130:=St.sep (h129.pick (.s .z))
     have h131:=St.ex (H:=λ w0_=>.sep (.box 241 (bus_Bus.repW w0_) u26 x14) (.oval (oslice 256 3 (λ _=>bus_master.orep)) w0_ x14.masters)) u27 h130
     have h132:=St.some (H:=(bus_Bus.mem u26)) (q:=u26) (x:=x14) h131
     refine Run.slim [(9,.int .i64 x1),(11,u26),(15,u24),(16,u25),(17,u6),(43,.int .i64 x25)] ⟨rfl,rfl,rfl,rfl,rfl,rfl,trivial⟩ ?_
     exact hk4 (s10.1,s10.2.1,x25,(some x14)) _ _ ⟨u24,u25,u26,rfl,(h132.facts (.atm (.s (.s (.s (.s .z)))) (.val (V.at (.s (.s .z))) (.val (V.at (.s (.s (.s .z)))) .nil)))).picks (.cons (.s .z) (.cons .z .nil))⟩ hF
    refine Run.exit rfl ?_
    refine sr (ga rfl (nil (Run.retP rfl (.tmp rfl .nil) ?_)))
    cases hF
    exact Post.mk' ⟨rfl,rfl,rfl,rfl⟩ (h87.picks .nil) .nil
   refine Run.block ?_
   have h133:=(h22.pick (.s .z)).weak
   refine Run.slim [(1,v1),(9,.int .i64 x1),(11,u7),(13,u3),(15,u4),(16,u5),(17,u6),(29,.int .i64 0)] ⟨rfl,rfl,rfl,rfl,rfl,rfl,rfl,rfl,trivial⟩ ?_
   refine Run.loopP (σ:=(Int×(List (List Message_))×(List Bool)×(Option bus_Bus)×(Option fragment_Assembler))) (λ s_ L_ w_=>∃ u0_ u1_:Value,L_=[(1,v1),(9,.int .i64 x1),(11,u0_),(13,u1_),(15,u4),(16,u5),(17,u6),(29,.int .i64 s_.1)]∧St e w_ [(false,.val (Rep.slice Fault_.rep) v1 a1),Gqs] [(true,.oval (oslice 143 1 (λ _=>Nest_sapi_Message.orep)) u4 s3.2.2.1),(true,.oval (oslice 143 1 (λ _=>Nest_sapi_Message.orep)) u5 s_.2.1),(true,.slice 4 Rep.bool u6 s_.2.2.1),(false,.opt (bus_Bus.mem u0_) u0_ s_.2.2.2.1),(false,.opt (fragment_Assembler.mem u1_) u1_ s_.2.2.2.2)]) hF ⟨u7,u3,rfl,(h133.facts (.atm .z (.atm (.s .z) .nil))).picks (.cons (.s (.s .z)) (.cons (.s (.s .z)) (.cons (.s (.s .z)) (.cons (.s (.s .z)) (.cons .z .nil)))))⟩ (λ k6 hk6 s12 _ w40 hI hF=>?_)
   obtain ⟨u30,u31,rfl,h134⟩:=hI
   refine Run.seq (sr (gm rfl (gb rfl (nil ?_))))
   refine Run.ite rfl hF (λ e62 hF=>?_) (λ e62 hF=>?_)
   ·refine Run.skip (Run.seq (Run.block (sr (op (OpS.build (f:=true) (x':=Fault_.z) h134 pl145 ti145 Fault_.zr rfl rfl rfl .nil (λ u32 h135=>?_))))))
    refine op (OpS.alloc h135 ti145 Fault_.zr rfl rfl (λ u33 w41 h136=>?_))
    refine op (OpS.storeB (f':=true) h136 .z PA.z Put.id ty145 rfl rfl rfl (V.at .z) (.inl rfl) (λ w42 h137=>?_))
    refine nil (Run.seq (sr (gm rfl (gm rfl (op (OpS.len h137 Tryz.underlying119 rfl rfl rfl (V.at (.s .z)) ?_))))))
    refine gb rfl (nil ?_)
    refine Run.join (σ:=Fault_) (λ s_ L_ w_=>L_=[(1,v1),(9,.int .i64 x1),(11,u30),(13,u31),(15,u4),(16,u5),(17,u6),(29,.int .i64 s12.1),(30,u33)]∧St e w_ [(false,.val (Rep.slice Fault_.rep) v1 a1),Gqs] [(false,.opt (bus_Bus.mem u30) u30 s12.2.2.2.1),(false,.opt (fragment_Assembler.mem u31) u31 s12.2.2.2.2),(false,.box 145 Fault_.rep u33 s_),(true,.oval (oslice 143 1 (λ _=>Nest_sapi_Message.orep)) u4 s3.2.2.1),(true,.oval (oslice 143 1 (λ _=>Nest_sapi_Message.orep)) u5 s12.2.1),(true,.slice 4 Rep.bool u6 s12.2.2.1)]) hF (λ s13 _ w43 hI hF=>?_) (λ j7 hj7 hF=>?_)
    ·obtain ⟨rfl,h138⟩:=hI
     refine sr (gm rfl (op (OpS.loadB h138 (.s (.s .z)) PA.z Get.id ty145 rfl rfl rfl (λ u34 h139=>?_))))
     obtain ⟨x26,e63,hF⟩:=bindP_use hF
     have h140:=St.unopt (h139.pick .z) e63
     obtain ⟨u35,h141⟩:=h140.unex
     have h142:=h141.unsep
     obtain ⟨y17,e64,hF⟩:=bindP_use hF
     have h143:=h142.front (.cons .z (.cons .z .nil))
     refine op (OpS.callO h143 Tryz.func61 rfl rfl rfl rfl (vs:=[u30,u34]) rfl (bus_Bus_Step_ok e64) rfl (.cons (f:=false) (V.at .z) .nil) ?_)
     rintro _ w44 _ _ _ ⟨u36,u37,rfl,rfl,rfl,rfl⟩ h144
     have h145:=h144
     simp only [ca,na] at h145
     refine gm rfl (op (OpS.ext rfl rfl rfl rfl ?_))
     refine op (OpS.ext rfl rfl rfl rfl ?_)
     refine op (OpS.alloc h145 ti147 Delivery_.zr rfl rfl (λ u38 w45 h146=>?_))
     refine op (OpS.storeB (f':=true) h146 .z PA.z Put.id ty147 rfl rfl rfl (V.at .z) (.inl rfl) (λ w46 h147=>?_))
     refine ga rfl (nil (Run.seq (sr (gm rfl (op (OpS.not rfl rfl rfl ?_))))))
     refine nil ?_
     refine Run.ite rfl hF (λ e65 hF=>?_) (λ e65 hF=>?_)
     ·refine Run.exit rfl ?_
      have h148:=h147.front (.cons (.s (.s .z)) (.cons (.s .z) .nil))
      have h149:=St.sep (h148.pick (.s .z))
      have h150:=St.ex (H:=λ w0_=>.sep (.box 241 (bus_Bus.repW w0_) u30 y17.2.2) (.oval (oslice 256 3 (λ _=>bus_master.orep)) w0_ y17.2.2.masters)) u37 h149
      have h151:=St.some (H:=(bus_Bus.mem u30)) (q:=u30) (x:=y17.2.2) h150
      refine Run.slim [(9,.int .i64 x1),(11,u30),(15,u4),(16,u5),(17,u6)] ⟨rfl,rfl,rfl,rfl,rfl,trivial⟩ ?_
      exact hj6 (s12.2.1,s12.2.2.1,(some y17.2.2)) _ _ ⟨u30,rfl,(h151.facts (.atm (.s (.s (.s .z))) .nil)).picks (.cons (.s (.s (.s (.s .z)))) (.cons (.s (.s (.s (.s .z)))) (.cons (.s (.s (.s (.s .z)))) (.cons .z .nil))))⟩ hF
     refine Run.skip (Run.seq (sr (ga rfl (nil (Run.block (Run.slim [(1,v1),(9,.int .i64 x1),(11,u30),(13,u31),(15,u4),(16,u5),(17,u6),(29,.int .i64 s12.1),(31,u38),(33,.int .i64 0)] ⟨rfl,rfl,rfl,rfl,rfl,rfl,rfl,rfl,rfl,rfl,trivial⟩ ?_))))))
     refine Run.loopP (σ:=(Int×(List Bool))) (λ s_ L_ w_=>L_=[(1,v1),(9,.int .i64 x1),(11,u30),(13,u31),(15,u4),(16,u5),(17,u6),(29,.int .i64 s12.1),(31,u38),(33,.int .i64 s_.1)]∧St e w_ [(false,.val (Rep.slice Fault_.rep) v1 a1),Gqs] [(false,.box 241 (bus_Bus.repW u37) u30 y17.2.2),(false,.opt (fragment_Assembler.mem u31) u31 s12.2.2.2.2),(true,.box 147 Delivery_.rep u38 y17.1),(true,.oval (oslice 143 1 (λ _=>Nest_sapi_Message.orep)) u4 s3.2.2.1),(true,.oval (oslice 143 1 (λ _=>Nest_sapi_Message.orep)) u5 s12.2.1),(true,.slice 4 Rep.bool u6 s_.2),(false,.oval (oslice 256 3 (λ _=>bus_master.orep)) u37 y17.2.2.masters)]) hF ⟨rfl,(h147.facts (.atm (.s (.s .z)) (.atm (.s (.s (.s .z))) .nil))).picks (.cons (.s .z) (.cons (.s (.s .z)) (.cons .z (.cons (.s (.s .z)) (.cons (.s (.s .z)) (.cons (.s (.s .z)) (.cons .z .nil)))))))⟩ (λ k7 hk7 s14 _ w47 hI hF=>?_)
     obtain ⟨rfl,h152⟩:=hI
     refine Run.seq (sr (gm rfl (op (OpS.fbox (o3:=3) h152 (.s (.s .z)) PA.z fa147_3 rfl rfl rfl rfl ?_))))
     refine op (OpS.loadB h152 (.s (.s .z)) PA.a (Get.fld Delivery_.f3) ty22 rfl rfl rfl (λ u39 h153=>?_))
     refine op (OpS.len h153 Tryz.underlying22 rfl rfl rfl (V.at .z) ?_)
     refine gb rfl (nil ?_)
     refine Run.ite rfl hF (λ e66 hF=>?_) (λ e66 hF=>?_)
     ·refine Run.skip (Run.seq (Run.block (Run.seq (sr (op (OpS.fbox (o3:=3) h153 (.s (.s .z)) PA.z fa147_3 rfl rfl rfl rfl ?_))))))
      refine op (OpS.loadB h153 (.s (.s .z)) PA.a (Get.fld Delivery_.f3) ty22 rfl rfl rfl (λ u40 h154=>?_))
      refine gm rfl ?_
      obtain ⟨x27,e67,hF⟩:=bindP_use hF
      refine op (OpS.iptr h154 Tryz.underlying22 ty3 rfl rfl rfl rfl (V.at .z) e67 (λ u41 h155=>?_))
      refine op (OpS.loadi h155 ty3 rfl rfl rfl .z ?_)
      refine gb rfl (gm rfl ?_)
      refine RunL.join (σ:=Bool) (λ s_ L_ w_=>L_=[(1,v1),(9,.int .i64 x1),(11,u30),(13,u31),(15,u4),(16,u5),(17,u6),(29,.int .i64 s12.1),(31,u38),(33,.int .i64 s14.1),(226,.bool s_)]∧St e w_ [(false,.val (Rep.slice Fault_.rep) v1 a1),Gqs] [(false,.box 241 (bus_Bus.repW u37) u30 y17.2.2),(false,.opt (fragment_Assembler.mem u31) u31 s12.2.2.2.2),(true,.box 147 Delivery_.rep u38 y17.1),(true,.oval (oslice 143 1 (λ _=>Nest_sapi_Message.orep)) u4 s3.2.2.1),(true,.oval (oslice 143 1 (λ _=>Nest_sapi_Message.orep)) u5 s12.2.1),(true,.slice 4 Rep.bool u6 s14.2),(false,.oval (oslice 256 3 (λ _=>bus_master.orep)) u37 y17.2.2.masters)]) hF (λ s15 _ w48 hI hF=>?_) (λ j8 hj8 hF=>?_)
      ·obtain ⟨rfl,h156⟩:=hI
       refine Run.ite rfl hF (λ e68 hF=>?_) (λ e68 hF=>?_)
       ·refine sr (ga rfl (nil (Run.retP rfl (.tmp rfl .nil) ?_)))
        cases hF
        exact Post.mk' ⟨rfl,rfl,rfl,rfl⟩ (h156.picks .nil) .nil
       refine Run.skip (Run.reg (gm rfl (op (OpS.fbox (o3:=3) h156 (.s (.s .z)) PA.z fa147_3 rfl rfl rfl rfl ?_))))
       refine op (OpS.loadB h156 (.s (.s .z)) PA.a (Get.fld Delivery_.f3) ty22 rfl rfl rfl (λ u42 h157=>?_))
       refine gm rfl ?_
       obtain ⟨x28,e69,hF⟩:=bindP_use hF
       refine op (OpS.iptr h157 Tryz.underlying22 ty3 rfl rfl rfl rfl (V.at .z) e69 (λ u43 h158=>?_))
       refine op (OpS.loadi h158 ty3 rfl rfl rfl .z ?_)
       obtain ⟨x29,e70,hF⟩:=bindP_use hF
       refine op (OpS.iown h158 (.s (.s (.s (.s (.s .z))))) Tryz.underlying127 ty4 rfl rfl rfl rfl e70 ?_)
       obtain ⟨d3,e71,hF⟩:=letP_use hF
       refine op (OpS.storeO (f':=true) h158 (.s (.s (.s (.s (.s .z))))) (idx_ne e70) PA.a (Put.of (Put.arr e70) e71) ty4 rfl rfl rfl V.bool (.inl rfl) (λ w49 h159=>?_))
       refine nil (Run.endBlock (Run.reg (gm rfl (gb rfl (ga rfl ?_)))))
       obtain ⟨x30,e72,hF⟩:=letP_use hF
       refine RunL.name e72 ?_
       refine nil (Run.slim [(1,v1),(9,.int .i64 x1),(11,u30),(13,u31),(15,u4),(16,u5),(17,u6),(29,.int .i64 s12.1),(31,u38),(33,.int .i64 x30)] ⟨rfl,rfl,rfl,rfl,rfl,rfl,rfl,rfl,rfl,rfl,trivial⟩ ?_)
       exact hk7 (x30,d3) _ _ ⟨rfl,(h159.facts (.atm (.s (.s .z)) (.atm (.s (.s (.s .z))) .nil))).picks (.cons (.s .z) (.cons (.s .z) (.cons (.s .z) (.cons (.s .z) (.cons (.s .z) (.cons .z (.cons .z .nil)))))))⟩ hF
      refine RunL.caseb hF (λ e73 hF=>?_) (λ e73 hF=>?_)
      ·refine gp rfl (gp rfl (gp rfl (gp rfl (gp rfl (gp rfl (gp rfl (gk rfl (nil (Run.slim [(1,v1),(9,.int .i64 x1),(11,u30),(13,u31),(15,u4),(16,u5),(17,u6),(29,.int .i64 s12.1),(31,u38),(33,.int .i64 s14.1),(226,.bool true)] ⟨rfl,rfl,rfl,rfl,rfl,rfl,rfl,rfl,rfl,rfl,rfl,trivial⟩ ?_)))))))))
       exact hj8 (true) _ _ ⟨rfl,(h155.facts (.atm (.s (.s (.s .z))) (.atm (.s (.s (.s (.s .z)))) .nil))).picks (.cons .z (.cons .z (.cons .z (.cons .z (.cons .z (.cons .z (.cons .z .nil)))))))⟩ hF
      refine op (OpS.fbox (o3:=3) h155 (.s (.s .z)) PA.z fa147_3 rfl rfl rfl rfl ?_)
      refine op (OpS.loadB h155 (.s (.s .z)) PA.a (Get.fld Delivery_.f3) ty22 rfl rfl rfl (λ u44 h160=>?_))
      refine gm rfl (op (OpS.iptr h160 Tryz.underlying22 ty3 rfl rfl rfl rfl (V.at .z) e67 (λ u45 h161=>?_)))
      refine op (OpS.loadi h161 ty3 rfl rfl rfl .z ?_)
      refine gm rfl (gb rfl (gk rfl (nil (Run.slim [(1,v1),(9,.int .i64 x1),(11,u30),(13,u31),(15,u4),(16,u5),(17,u6),(29,.int .i64 s12.1),(31,u38),(33,.int .i64 s14.1),(226,.bool (decide (x27≥x1)))] ⟨rfl,rfl,rfl,rfl,rfl,rfl,rfl,rfl,rfl,rfl,rfl,trivial⟩ ?_))))
      exact hj8 (decide (x27≥x1)) _ _ ⟨rfl,(h161.facts (.atm (.s (.s (.s (.s (.s .z))))) (.atm (.s (.s (.s (.s (.s (.s .z)))))) .nil))).picks (.cons .z (.cons .z (.cons .z (.cons .z (.cons .z (.cons .z (.cons .z .nil)))))))⟩ hF
     refine Run.exit rfl ?_
     refine sr (op (OpS.fbox (o3:=1) h153 (.s (.s .z)) PA.z fa147_1 rfl rfl rfl rfl ?_))
     refine op (OpS.loadB h153 (.s (.s .z)) PA.a (Get.fld Delivery_.f1) ty24 rfl rfl rfl (λ u46 h162=>?_))
     obtain ⟨y18,e74,hF⟩:=bindP_use hF
     refine op (OpS.callP h162 Tryz.func62 rfl rfl rfl rfl (vs:=[u46]) rfl (frame_Decode_ok e74) (.cons (f:=true) (V.at .z) .nil) ?_)
     rintro _ w50 _ _ _ ⟨u47,rfl,rfl,rfl,rfl⟩ h163
     have h164:=h163 rfl rfl
     simp only [ca,na] at h164
     refine gm rfl (op (OpS.ext rfl rfl rfl rfl ?_))
     refine op (OpS.ext rfl rfl rfl rfl ?_)
     refine op (OpS.alloc h164 ti142 Frame_.zr rfl rfl (λ u48 w51 h165=>?_))
     refine op (OpS.storeB (f':=true) h165 .z PA.z Put.id ty142 rfl rfl rfl (V.at .z) (.inl rfl) (λ w52 h166=>?_))
     refine ga rfl (nil (Run.seq (sr (gm rfl (gb rfl (op (OpS.fbox (o3:=2) h166 (.s (.s (.s .z))) PA.z fa147_2 rfl rfl rfl rfl ?_)))))))
     refine op (OpS.loadBb h166 (.s (.s (.s .z))) PA.a (Get.fld Delivery_.f2) ty4 rfl rfl rfl ?_)
     refine op (OpS.neb Tryz.underlying4 rfl rfl rfl rfl ?_)
     refine nil ?_
     refine Run.ite rfl hF (λ e75 hF=>?_) (λ e75 hF=>?_)
     ·refine sr (ga rfl (nil (Run.retP rfl (.tmp rfl .nil) ?_)))
      cases hF
      exact Post.mk' ⟨rfl,rfl,rfl,rfl⟩ (h166.picks .nil) .nil
     refine Run.skip (Run.seq (sr (op (OpS.fbox (o3:=2) h166 (.s (.s (.s .z))) PA.z fa147_2 rfl rfl rfl rfl ?_))))
     refine op (OpS.loadBb h166 (.s (.s (.s .z))) PA.a (Get.fld Delivery_.f2) ty4 rfl rfl rfl ?_)
     refine op (OpS.not rfl rfl rfl ?_)
     refine nil ?_
     refine Run.ite rfl hF (λ e76 hF=>?_) (λ e76 hF=>?_)
     ·refine Run.exit rfl ?_
      refine Run.reg (gm rfl (gb rfl (ga rfl ?_)))
      obtain ⟨x31,e77,hF⟩:=letP_use hF
      refine RunL.name e77 ?_
      refine nil ?_
      have h167:=h166.front (.cons (.s (.s (.s (.s (.s (.s (.s .z))))))) (.cons (.s .z) .nil))
      have h168:=St.sep (h167.pick (.s .z))
      have h169:=St.ex (H:=λ w0_=>.sep (.box 241 (bus_Bus.repW w0_) u30 y17.2.2) (.oval (oslice 256 3 (λ _=>bus_master.orep)) w0_ y17.2.2.masters)) u37 h168
      have h170:=St.some (H:=(bus_Bus.mem u30)) (q:=u30) (x:=y17.2.2) h169
      refine Run.slim [(1,v1),(9,.int .i64 x1),(11,u30),(13,u31),(15,u4),(16,u5),(17,u6),(29,.int .i64 x31)] ⟨rfl,rfl,rfl,rfl,rfl,rfl,rfl,rfl,trivial⟩ ?_
      exact hk6 (x31,s12.2.1,s14.2,(some y17.2.2),s12.2.2.2.2) _ _ ⟨u30,u31,rfl,(h170.facts (.atm (.s (.s (.s .z))) (.atm (.s (.s (.s (.s .z)))) .nil))).picks (.cons (.s (.s (.s (.s .z)))) (.cons (.s (.s (.s (.s .z)))) (.cons (.s (.s (.s (.s .z)))) (.cons .z (.cons (.s .z) .nil)))))⟩ hF
     refine Run.skip (sr (op (OpS.fbox (o3:=2) h166 .z PA.z fa142_2 rfl rfl rfl rfl ?_)))
     refine op (OpS.loadB h166 .z PA.a (Get.fld Frame_.f2) ty24 rfl rfl rfl (λ u49 h171=>?_))
     obtain ⟨y19,e78,hF⟩:=bindP_use hF
     refine op (OpS.callP h171 Tryz.func63 rfl rfl rfl rfl (vs:=[u49]) rfl (fragment_Decode_ok e78) (.cons (f:=true) (V.at .z) .nil) ?_)
     rintro _ w53 _ _ _ ⟨u50,rfl,rfl,rfl,rfl⟩ h172
     have h173:=h172 rfl rfl
     simp only [ca,na] at h173
     refine gm rfl (op (OpS.ext rfl rfl rfl rfl ?_))
     refine op (OpS.ext rfl rfl rfl rfl ?_)
     refine op (OpS.alloc h173 ti139 Packet_.zr rfl rfl (λ u51 w54 h174=>?_))
     refine op (OpS.storeB (f':=true) h174 .z PA.z Put.id ty139 rfl rfl rfl (V.at .z) (.inl rfl) (λ w55 h175=>?_))
     refine ga rfl (nil (Run.seq (Run.seq ?_)))
     refine Run.join (σ:=Bool) (λ s_ L_ w_=>L_=[(1,v1),(9,.int .i64 x1),(11,u30),(13,u31),(15,u4),(16,u5),(17,u6),(29,.int .i64 s12.1),(31,u38),(36,u51),(283,.bool s_)]∧St e w_ [(false,.val (Rep.slice Fault_.rep) v1 a1),Gqs] [(false,.box 241 (bus_Bus.repW u37) u30 y17.2.2),(false,.opt (fragment_Assembler.mem u31) u31 s12.2.2.2.2),(true,.box 147 Delivery_.rep u38 y17.1),(true,.box 139 Packet_.rep u51 y19.1),(true,.oval (oslice 143 1 (λ _=>Nest_sapi_Message.orep)) u4 s3.2.2.1),(true,.oval (oslice 143 1 (λ _=>Nest_sapi_Message.orep)) u5 s12.2.1),(true,.slice 4 Rep.bool u6 s14.2),(false,.oval (oslice 256 3 (λ _=>bus_master.orep)) u37 y17.2.2.masters)]) hF (λ s16 _ w56 hI hF=>?_) (λ j9 hj9 hF=>?_)
     ·obtain ⟨rfl,h176⟩:=hI
      refine Run.ite rfl hF (λ e79 hF=>?_) (λ e79 hF=>?_)
      ·refine sr (ga rfl (nil (Run.retP rfl (.tmp rfl .nil) ?_)))
       cases hF
       exact Post.mk' ⟨rfl,rfl,rfl,rfl⟩ (h176.picks .nil) .nil
      refine Run.skip (sr (gm rfl (op (OpS.loadB h176 (.s (.s (.s .z))) PA.z Get.id ty139 rfl rfl rfl (λ u52 h177=>?_)))))
      obtain ⟨x32,e80,hF⟩:=bindP_use hF
      have h178:=St.unopt (h177.pick (.s .z)) e80
      obtain ⟨u53,h179⟩:=h178.unex
      have h180:=h179.unsep
      obtain ⟨y20,e81,hF⟩:=bindP_use hF
      have h181:=h180.front (.cons .z (.cons .z .nil))
      refine op (OpS.callO h181 Tryz.func64 rfl rfl rfl rfl (vs:=[u31,u52]) rfl (fragment_Assembler_Accept_ok e81) rfl (.cons (f:=true) (V.at .z) .nil) ?_)
      rintro _ w57 _ _ _ ⟨u54,u55,rfl,rfl,rfl,rfl⟩ h182
      have h183:=h182
      simp only [ca,na] at h183
      refine gm rfl (op (OpS.ext rfl rfl rfl rfl ?_))
      refine op (OpS.ext rfl rfl rfl rfl ?_)
      refine op (OpS.ext rfl rfl rfl rfl ?_)
      refine op (OpS.alloc h183 ti155 Whole_.zr rfl rfl (λ u56 w58 h184=>?_))
      have h185:=(h184.pick .z).weak
      refine op (OpS.storeB (f':=false) h185 .z PA.z Put.id ty155 rfl rfl rfl (V.at .z) (.inr rfl) (λ w59 h186=>?_))
      refine ga rfl (ga rfl (nil (sr (op (OpS.fbox (o3:=3) h186 .z PA.z fa155_3 rfl rfl rfl rfl ?_)))))
      refine op (OpS.loadB h186 .z PA.a (Get.fld Whole_.f3) ty24 rfl rfl rfl (λ u57 h187=>?_))
      obtain ⟨y21,e82,hF⟩:=bindP_use hF
      refine op (OpS.callP h187 Tryz.func65 rfl rfl rfl rfl (vs:=[u57]) rfl (message_ParseRequest_ok e82) (.cons (f:=false) (V.at .z) .nil) ?_)
      rintro _ w60 _ _ _ ⟨u58,rfl,rfl,rfl,rfl⟩ h188
      have h189:=h188 rfl rfl
      simp only [ca,na] at h189
      refine gm rfl (op (OpS.ext rfl rfl rfl rfl ?_))
      refine op (OpS.ext rfl rfl rfl rfl ?_)
      refine op (OpS.alloc h189 ti130 Message_.zr rfl rfl (λ u59 w61 h190=>?_))
      refine op (OpS.storeB (f':=true) h190 .z PA.z Put.id ty130 rfl rfl rfl (V.at .z) (.inl rfl) (λ w62 h191=>?_))
      refine ga rfl (nil (sr (gm rfl (gm rfl ?_))))
      refine RunL.join (σ:=Bool) (λ s_ L_ w_=>L_=[(1,v1),(9,.int .i64 x1),(11,u30),(13,u31),(15,u4),(16,u5),(17,u6),(29,.int .i64 s12.1),(31,u38),(41,u59),(301,.bool s_)]∧St e w_ [(false,.val (Rep.slice Fault_.rep) v1 a1),Gqs] [(false,.box 241 (bus_Bus.repW u37) u30 y17.2.2),(false,.box 245 (fragment_Assembler.repW u55) u31 y20.2.2.2),(true,.box 147 Delivery_.rep u38 y17.1),(true,.box 130 Message_.rep u59 y21.1),(true,.oval (oslice 143 1 (λ _=>Nest_sapi_Message.orep)) u4 s3.2.2.1),(true,.oval (oslice 143 1 (λ _=>Nest_sapi_Message.orep)) u5 s12.2.1),(true,.slice 4 Rep.bool u6 s14.2),(false,.oval (oslice 256 3 (λ _=>bus_master.orep)) u37 y17.2.2.masters),(false,.oval (oslice 267 6 (λ _=>fragment_open.orep)) u55 y20.2.2.2.open_)]) hF (λ s17 _ w63 hI hF=>?_) (λ j10 hj10 hF=>?_)
      ·obtain ⟨rfl,h192⟩:=hI
       refine Run.ite rfl hF (λ e83 hF=>?_) (λ e83 hF=>?_)
       ·have h193:=h192.picks (.cons (.s (.s .z)) (.cons (.s (.s .z)) (.cons (.s (.s (.s .z))) (.cons .z (.cons .z (.cons .z (.cons .z (.cons .z (.cons .z .nil)))))))))
        obtain ⟨x33,e84,hF⟩:=bindP_use hF
        obtain ⟨x34,e85,hF⟩:=bindP_use hF
        obtain ⟨x35,e86,hF⟩:=bindP_use hF
        refine Run.drawV (Ωs:=[(false,.box 241 (bus_Bus.repW u37) u30 y17.2.2),(false,.box 245 (fragment_Assembler.repW u55) u31 y20.2.2.2),(true,.oval (oslice 143 1 (λ _=>Nest_sapi_Message.orep)) u4 s3.2.2.1),(true,.slice 4 Rep.bool u6 s14.2),(false,.oval (oslice 256 3 (λ _=>bus_master.orep)) u37 y17.2.2.masters),(false,.oval (oslice 267 6 (λ _=>fragment_open.orep)) u55 y20.2.2.2.open_)]) [.k 302 u5,.kr 303 (padd u38 0) [0],.fr 304 (λ u_=>[(true,.val (Rep.slice (Rep.int .i64)) u_ y17.1.Masters)]) [0],.f 305 (λ u_=>[(true,.ptr (Rep.int .i64) u_ x33)]),.k 306 (.int .i64 x33),.k 307 u5,.kr 308 (padd u38 0) [0],.fr 309 (λ u_=>[(true,.val (Rep.slice (Rep.int .i64)) u_ y17.1.Masters)]) [0],.f 310 (λ u_=>[(true,.ptr (Rep.int .i64) u_ x33)]),.k 311 (.int .i64 x33),⟨some 312,some ((padd (sp u5) ((x33:Int).toNat*1))),λ _=>[],λ ds_ u_=>[],[],[(2,[11,10])],none⟩,⟨some 313,none,λ u_=>[],λ ds_ u_=>[(true,.oval (oslice 143 1 (at' (λ _=>Nest_sapi_Message.orep) (x33).toNat (Nest_sapi_Message.orepW (raw u_)))) u5 s12.2.1),(true,.oval (oslice 130 9 (λ _=>(sh Message_.rep))) u_ x34)],[2],[],none⟩,.fr 314 (λ u_=>[(true,.val Message_.rep u_ y21.1)]) [1],.f 315 (λ u_=>[(true,.val (Rep.slice Message_.rep) u_ ([y21.1]))]),⟨some 316,none,λ u_=>[],λ ds_ u_=>[(true,.oval (oslice 143 1 (at' (λ _=>Nest_sapi_Message.orep) (x33).toNat (Nest_sapi_Message.orepW (raw (nth ds_ 0))))) u5 s12.2.1),(true,.oval (oslice 130 9 (λ _=>(sh Message_.rep))) u_ x35)],[14],[],none⟩] [[],[],[1],[2],[3],[],[],[6],[7],[8],[5,9],[10],[],[12],[11,13]] [[(true,.box 147 Delivery_.rep u38 y17.1)],[(true,.box 130 Message_.rep u59 y21.1)],[(true,.oval (oslice 143 1 (λ _=>Nest_sapi_Message.orep)) u5 s12.2.1)]] [0,1,3,4,5,6,7,8,9,10,11,12,13,15,16,17] Try_mixed rfl rfl rfl h193 (.cons ?_ (.cons ?_ (.cons ?_ (.cons ?_ (.cons ?_ (.cons ?_ (.cons ?_ (.cons ?_ (.cons ?_ (.cons ?_ (.cons ?_ (.cons ?_ (.cons ?_ (.cons ?_ (.cons ?_ .nil))))))))))))))) (λ q4 w hq4 h=>?_)
        ·intro q4 w Γx Ωx h
         refine OpS.mv rfl rfl rfl ?_
         exact du h
        ·intro q4 w Γx Ωx h
         refine OpS.fbox (o3:=0) h .z PA.z fa147_0 rfl rfl rfl rfl ?_
         exact du h
        ·intro q4 w Γx Ωx h
         refine OpS.loadB h .z PA.a (Get.fld Delivery_.f0) ty22 rfl rfl rfl (λ u h202=>?_)
         exact ⟨u,rfl,trivial,h202⟩
        ·intro q4 w Γx Ωx h
         refine OpS.iptr h Tryz.underlying22 ty3 rfl rfl rfl rfl (V.at .z) e84 (λ u h203=>?_)
         exact ⟨u,rfl,trivial,h203⟩
        ·intro q4 w Γx Ωx h
         refine OpS.loadi h ty3 rfl rfl rfl .z ?_
         exact du h
        ·intro q4 w Γx Ωx h
         refine OpS.mv rfl rfl rfl ?_
         exact du h
        ·intro q4 w Γx Ωx h
         refine OpS.fbox (o3:=0) h .z PA.z fa147_0 rfl rfl rfl rfl ?_
         exact du h
        ·intro q4 w Γx Ωx h
         refine OpS.loadB h .z PA.a (Get.fld Delivery_.f0) ty22 rfl rfl rfl (λ u h204=>?_)
         exact ⟨u,rfl,trivial,h204⟩
        ·intro q4 w Γx Ωx h
         refine OpS.iptr h Tryz.underlying22 ty3 rfl rfl rfl rfl (V.at .z) e84 (λ u h205=>?_)
         exact ⟨u,rfl,trivial,h205⟩
        ·intro q4 w Γx Ωx h
         refine OpS.loadi h ty3 rfl rfl rfl .z ?_
         exact du h
        ·intro q4 w Γx Ωx h
         refine OpS.iownD h .z Tryz.underlying126 sz143 rfl rfl rfl rfl e85 ?_
         exact du h
        ·intro q4 w Γx Ωx h
         refine OpS.openO (F':=λ v_=>at' (λ _=>Nest_sapi_Message.orep) (x33).toNat (Nest_sapi_Message.orepW (raw v_))) (hn:=λ _=>rfl) (hn':=λ _=>at_hn rfl rfl) h .z (idx_ne e85) PA.a (λ v_=>Len.comp (Len.arrOpen e85) (Nest_sapi_Message.lenO v_)) rfl ty143 rfl rfl rfl rfl (λ u h206=>?_)
         exact ⟨u,rfl,trivial,h206⟩
        ·intro q4 w Γx Ωx h
         refine OpS.loadB h .z PA.z Get.id ty130 rfl rfl rfl (λ u h207=>?_)
         exact ⟨u,rfl,trivial,h207⟩
        ·intro q4 w Γx Ωx h
         refine OpS.lit (r:=Message_.rep) (f:=true) h Tryz.underlying143 ti130 rfl rfl rfl rfl rfl (.cons rfl (V.at .z) .nil) rfl rfl (λ u w66 h208=>?_)
         exact ⟨u,rfl,trivial,h208⟩
        ·intro q4 w Γx Ωx h
         refine OpS.appD (fr:=Message_.rep) (f':=true) h (.s .z) Tryz.underlying143 ti130 rfl rfl rfl rfl rfl rfl rfl (V.at .z) (.inl rfl) e86 (λ u w67 h209=>?_)
         have h210:=h209.front (.cons (.s .z) (.cons .z (.cons .z (.cons .z (.cons .z (.cons .z (.cons .z (.cons .z .nil))))))))
         exact ⟨u,rfl,trivial,h210⟩
        have h211:=h
        refine op (OpS.iownD h211 (.s (.s .z)) Tryz.underlying126 sz143 rfl rfl rfl rfl e85 ?_)
        obtain ⟨d4,e87,hF⟩:=letP_use hF
        refine op (OpS.storePO (F:=(at' (λ _=>Nest_sapi_Message.orep) (x33).toNat (Nest_sapi_Message.orepW (raw (q4 11))))) (F2:=λ _=>Nest_sapi_Message.orep) (hn:=at_hn rfl rfl) (hn2:=λ _=>rfl) h211 (.s (.s .z)) (.s (.s .z)) (idx_ne e85) PA.a (Len.comp (Len.arrShut e85) (Nest_sapi_Message.lenC (q4 11))) ty143 rfl rfl rfl rfl (.inl rfl) (λ w68 h212=>?_))
        have h213:=St.termD (l':=d4) h212 e87
        refine nil (Run.endBlock (Run.reg (gm rfl (gb rfl (ga rfl ?_)))))
        obtain ⟨x36,e88,hF⟩:=letP_use hF
        refine RunL.name e88 ?_
        refine nil ?_
        have h214:=h213.front (.cons (.s (.s (.s (.s (.s (.s (.s .z))))))) (.cons (.s (.s (.s .z))) .nil))
        have h215:=St.sep (h214.pick (.s .z))
        have h216:=St.ex (H:=λ w0_=>.sep (.box 241 (bus_Bus.repW w0_) u30 y17.2.2) (.oval (oslice 256 3 (λ _=>bus_master.orep)) w0_ y17.2.2.masters)) u37 h215
        have h217:=St.some (H:=(bus_Bus.mem u30)) (q:=u30) (x:=y17.2.2) h216
        have h218:=h217.front (.cons (.s (.s (.s (.s (.s (.s (.s .z))))))) (.cons (.s (.s (.s (.s .z)))) .nil))
        have h219:=St.sep (h218.pick (.s .z))
        have h220:=St.ex (H:=λ w0_=>.sep (.box 245 (fragment_Assembler.repW w0_) u31 y20.2.2.2) (.oval (oslice 267 6 (λ _=>fragment_open.orep)) w0_ y20.2.2.2.open_)) u55 h219
        have h221:=St.some (H:=(fragment_Assembler.mem u31)) (q:=u31) (x:=y20.2.2.2) h220
        refine Run.slim [(1,v1),(9,.int .i64 x1),(11,u30),(13,u31),(15,u4),(16,u5),(17,u6),(29,.int .i64 x36)] ⟨rfl,rfl,rfl,rfl,rfl,rfl,rfl,rfl,trivial⟩ ?_
        exact hk6 (x36,d4,s14.2,(some y17.2.2),(some y20.2.2.2)) _ _ ⟨u30,u31,rfl,(h221.facts (.atm (.s (.s (.s (.s (.s (.s .z)))))) (.atm (.s (.s (.s (.s (.s (.s (.s .z))))))) .nil))).picks (.cons (.s (.s (.s (.s (.s .z))))) (.cons (.s (.s .z)) (.cons (.s (.s (.s (.s .z)))) (.cons (.s .z) (.cons .z .nil)))))⟩ hF
       refine Run.skip (Run.endBlock (Run.reg (gm rfl (gb rfl (ga rfl ?_)))))
       obtain ⟨x37,e89,hF⟩:=letP_use hF
       refine RunL.name e89 ?_
       refine nil ?_
       have h222:=h192.front (.cons (.s (.s (.s (.s (.s (.s (.s .z))))))) (.cons .z .nil))
       have h223:=St.sep (h222.pick (.s .z))
       have h224:=St.ex (H:=λ w0_=>.sep (.box 241 (bus_Bus.repW w0_) u30 y17.2.2) (.oval (oslice 256 3 (λ _=>bus_master.orep)) w0_ y17.2.2.masters)) u37 h223
       have h225:=St.some (H:=(bus_Bus.mem u30)) (q:=u30) (x:=y17.2.2) h224
       have h226:=h225.front (.cons (.s (.s (.s (.s (.s (.s (.s .z))))))) (.cons (.s .z) .nil))
       have h227:=St.sep (h226.pick (.s .z))
       have h228:=St.ex (H:=λ w0_=>.sep (.box 245 (fragment_Assembler.repW w0_) u31 y20.2.2.2) (.oval (oslice 267 6 (λ _=>fragment_open.orep)) w0_ y20.2.2.2.open_)) u55 h227
       have h229:=St.some (H:=(fragment_Assembler.mem u31)) (q:=u31) (x:=y20.2.2.2) h228
       refine Run.slim [(1,v1),(9,.int .i64 x1),(11,u30),(13,u31),(15,u4),(16,u5),(17,u6),(29,.int .i64 x37)] ⟨rfl,rfl,rfl,rfl,rfl,rfl,rfl,rfl,trivial⟩ ?_
       exact hk6 (x37,s12.2.1,s14.2,(some y17.2.2),(some y20.2.2.2)) _ _ ⟨u30,u31,rfl,(h229.facts (.atm .z (.atm (.s .z) .nil))).picks (.cons (.s (.s (.s (.s .z)))) (.cons (.s (.s (.s (.s .z)))) (.cons (.s (.s (.s (.s .z)))) (.cons (.s .z) (.cons .z .nil)))))⟩ hF
      refine RunL.caseb hF (λ e90 hF=>?_) (λ e90 hF=>?_)
      ·refine gm rfl (gb rfl (gk rfl (nil (Run.slim [(1,v1),(9,.int .i64 x1),(11,u30),(13,u31),(15,u4),(16,u5),(17,u6),(29,.int .i64 s12.1),(31,u38),(41,u59),(301,.bool (y21.2==0))] ⟨rfl,rfl,rfl,rfl,rfl,rfl,rfl,rfl,rfl,rfl,rfl,trivial⟩ ?_))))
       exact hj10 (y21.2==0) _ _ ⟨rfl,(h191.facts (.atm (.s (.s (.s (.s .z)))) (.atm (.s (.s (.s (.s (.s .z))))) .nil))).picks (.cons (.s (.s (.s (.s .z)))) (.cons (.s (.s .z)) (.cons (.s (.s (.s .z))) (.cons .z (.cons (.s (.s (.s .z))) (.cons (.s (.s (.s .z))) (.cons (.s (.s (.s .z))) (.cons (.s (.s (.s .z))) (.cons (.s .z) .nil)))))))))⟩ hF
      refine gp rfl (gp rfl (gk rfl (nil (Run.slim [(1,v1),(9,.int .i64 x1),(11,u30),(13,u31),(15,u4),(16,u5),(17,u6),(29,.int .i64 s12.1),(31,u38),(41,u59),(301,.bool false)] ⟨rfl,rfl,rfl,rfl,rfl,rfl,rfl,rfl,rfl,rfl,rfl,trivial⟩ ?_))))
      exact hj10 (false) _ _ ⟨rfl,(h191.facts (.atm (.s (.s (.s (.s .z)))) (.atm (.s (.s (.s (.s (.s .z))))) .nil))).picks (.cons (.s (.s (.s (.s .z)))) (.cons (.s (.s .z)) (.cons (.s (.s (.s .z))) (.cons .z (.cons (.s (.s (.s .z))) (.cons (.s (.s (.s .z))) (.cons (.s (.s (.s .z))) (.cons (.s (.s (.s .z))) (.cons (.s .z) .nil)))))))))⟩ hF
     have h230:=h175.picks (.cons .z (.cons .z (.cons (.s (.s .z)) (.cons .z (.cons .z (.cons .z (.cons .z (.cons .z (.cons .z .nil)))))))))
     obtain ⟨x38,e91,hF⟩:=letP_use hF
     refine iteP_use hF (λ e92 hF=>?_) (λ e92 hF=>?_)
     ·have hG:=hF
      subst e92
      have hF:=hG
      refine Run.drawV (Ωs:=[(false,.box 241 (bus_Bus.repW u37) u30 y17.2.2),(false,.opt (fragment_Assembler.mem u31) u31 s12.2.2.2.2),(true,.oval (oslice 143 1 (λ _=>Nest_sapi_Message.orep)) u4 s3.2.2.1),(true,.oval (oslice 143 1 (λ _=>Nest_sapi_Message.orep)) u5 s12.2.1),(true,.slice 4 Rep.bool u6 s14.2),(false,.oval (oslice 256 3 (λ _=>bus_master.orep)) u37 y17.2.2.masters)]) [.k 254 (.int .i64 y19.2),.k 255 (.bool (y19.2 != 0)),.k 256 (.bool true),.k 257 undef,.k 258 undef,.k 259 undef,.k 260 undef,.k 261 (.bool true),.k 262 (.bool true),.k 263 undef,.k 264 undef,.k 265 undef,.k 266 undef,.k 267 undef,.k 268 undef,.k 269 undef,.k 270 undef,.k 271 undef,.k 272 (.bool true),.k 273 (.bool true),.k 274 undef,.k 275 undef,.k 276 undef,.k 277 undef,.k 278 undef,.k 279 undef,.k 280 undef,.k 281 undef] [[],[0],[1],[2],[2],[2],[2],[2,6],[7],[8],[8],[8],[8],[8],[8],[8],[8],[8],[8,17],[18],[19],[19],[19],[19],[19],[19],[19],[19]] [[(true,.box 139 Packet_.rep u51 y19.1)],[(true,.box 142 Frame_.rep u48 y18.1)],[(true,.box 147 Delivery_.rep u38 y17.1)]] [0,1,2,3,4,5,6,7,8,9,10,11,12,13,14,15,16,17,18,19,20,21,22,23,24,25,26,27,28,29,30] Try_mixed rfl rfl rfl h230 (.cons ?_ (.cons ?_ (.cons ?_ (.cons (dp λ _=>rfl) (.cons (dp λ _=>rfl) (.cons (dp λ _=>rfl) (.cons (dp λ _=>rfl) (.cons ?_ (.cons ?_ (.cons (dp λ _=>rfl) (.cons (dp λ _=>rfl) (.cons (dp λ _=>rfl) (.cons (dp λ _=>rfl) (.cons (dp λ _=>rfl) (.cons (dp λ _=>rfl) (.cons (dp λ _=>rfl) (.cons (dp λ _=>rfl) (.cons (dp λ _=>rfl) (.cons ?_ (.cons ?_ (.cons (dp λ _=>rfl) (.cons (dp λ _=>rfl) (.cons (dp λ _=>rfl) (.cons (dp λ _=>rfl) (.cons (dp λ _=>rfl) (.cons (dp λ _=>rfl) (.cons (dp λ _=>rfl) (.cons (dp λ _=>rfl) .nil)))))))))))))))))))))))))))) (λ q5 w hq5 h=>?_)
      ·intro q5 w Γx Ωx h
       refine OpS.mv rfl rfl rfl ?_
       exact du h
      ·intro q5 w Γx Ωx h
       refine OpS.bin rfl rfl rfl rfl rfl ?_
       exact du h
      ·intro q5 w Γx Ωx h
       refine OpS.mv rfl rfl rfl ?_
       exact ⟨undef,(congrArg (λ z_=>some (Value.bool z_)) e91),trivial,h⟩
      ·intro q5 w Γx Ωx h
       refine OpS.pick rfl rfl rfl rfl ?_
       exact du h
      ·intro q5 w Γx Ωx h
       refine OpS.mv rfl rfl rfl ?_
       exact du h
      ·intro q5 w Γx Ωx h
       refine OpS.pick rfl rfl rfl rfl ?_
       exact du h
      ·intro q5 w Γx Ωx h
       refine OpS.mv rfl rfl rfl ?_
       exact du h
      have h231:=h
      refine gp rfl (gk rfl (nil (Run.slim [(283,.bool true),(36,u51),(1,v1),(9,.int .i64 x1),(11,u30),(13,u31),(15,u4),(16,u5),(17,u6),(29,.int .i64 s12.1),(31,u38)] ⟨rfl,rfl,rfl,rfl,rfl,rfl,rfl,rfl,rfl,rfl,rfl,trivial⟩ ?_)))
      refine Run.slim [(1,v1),(9,.int .i64 x1),(11,u30),(13,u31),(15,u4),(16,u5),(17,u6),(29,.int .i64 s12.1),(31,u38),(36,u51),(283,.bool true)] ⟨rfl,rfl,rfl,rfl,rfl,rfl,rfl,rfl,rfl,rfl,rfl,trivial⟩ ?_
      exact hj9 (true) _ _ ⟨rfl,(h231.facts (.atm (.s (.s (.s (.s (.s .z))))) (.atm (.s (.s (.s (.s (.s (.s .z)))))) .nil))).picks (.cons (.s (.s (.s .z))) (.cons (.s (.s (.s .z))) (.cons (.s (.s .z)) (.cons .z (.cons (.s .z) (.cons (.s .z) (.cons (.s .z) (.cons (.s .z) .nil))))))))⟩ hF
     have hG:=hF
     subst e92
     have hF:=hG
     obtain ⟨x39,e93,hF⟩:=letP_use hF
     refine iteP_use hF (λ e94 hF=>?_) (λ e94 hF=>?_)
     ·have hG:=hF
      subst e94
      have hF:=hG
      refine Run.drawV (Ωs:=[(false,.box 241 (bus_Bus.repW u37) u30 y17.2.2),(false,.opt (fragment_Assembler.mem u31) u31 s12.2.2.2.2),(true,.oval (oslice 143 1 (λ _=>Nest_sapi_Message.orep)) u4 s3.2.2.1),(true,.oval (oslice 143 1 (λ _=>Nest_sapi_Message.orep)) u5 s12.2.1),(true,.slice 4 Rep.bool u6 s14.2),(false,.oval (oslice 256 3 (λ _=>bus_master.orep)) u37 y17.2.2.masters)]) [.k 254 (.int .i64 y19.2),.k 255 (.bool (y19.2 != 0)),.k 256 (.bool false),.kr 257 (padd u38 0) [2],.fr 258 (λ u_=>[(true,.val (Rep.slice (Rep.int .i64)) u_ y17.1.Masters)]) [2],.k 259 (.int .i64 (y17.1.Masters.length:Int)),.k 260 (.bool ((y17.1.Masters.length:Int) != 1)),.k 261 (.bool ((y17.1.Masters.length:Int) != 1)),.k 262 (.bool true),.k 263 undef,.k 264 undef,.k 265 undef,.k 266 undef,.k 267 undef,.k 268 undef,.k 269 undef,.k 270 undef,.k 271 undef,.k 272 (.bool true),.k 273 (.bool true),.k 274 undef,.k 275 undef,.k 276 undef,.k 277 undef,.k 278 undef,.k 279 undef,.k 280 undef,.k 281 undef] [[],[0],[1],[2],[3,2],[4,2],[5,2],[2,6],[7],[8],[8],[8],[8],[8],[8],[8],[8],[8],[8,17],[18],[19],[19],[19],[19],[19],[19],[19],[19]] [[(true,.box 139 Packet_.rep u51 y19.1)],[(true,.box 142 Frame_.rep u48 y18.1)],[(true,.box 147 Delivery_.rep u38 y17.1)]] [0,1,2,3,4,5,6,7,8,9,10,11,12,13,14,15,16,17,18,19,20,21,22,23,24,25,26,27,28,29,30] Try_mixed rfl rfl rfl h230 (.cons ?_ (.cons ?_ (.cons ?_ (.cons ?_ (.cons ?_ (.cons ?_ (.cons ?_ (.cons ?_ (.cons ?_ (.cons (dp λ _=>rfl) (.cons (dp λ _=>rfl) (.cons (dp λ _=>rfl) (.cons (dp λ _=>rfl) (.cons (dp λ _=>rfl) (.cons (dp λ _=>rfl) (.cons (dp λ _=>rfl) (.cons (dp λ _=>rfl) (.cons (dp λ _=>rfl) (.cons ?_ (.cons ?_ (.cons (dp λ _=>rfl) (.cons (dp λ _=>rfl) (.cons (dp λ _=>rfl) (.cons (dp λ _=>rfl) (.cons (dp λ _=>rfl) (.cons (dp λ _=>rfl) (.cons (dp λ _=>rfl) (.cons (dp λ _=>rfl) .nil)))))))))))))))))))))))))))) (λ q5 w hq6 h=>?_)
      ·intro q5 w Γx Ωx h
       refine OpS.mv rfl rfl rfl ?_
       exact du h
      ·intro q5 w Γx Ωx h
       refine OpS.bin rfl rfl rfl rfl rfl ?_
       exact du h
      ·intro q5 w Γx Ωx h
       refine OpS.mv rfl rfl rfl ?_
       exact ⟨undef,(congrArg (λ z_=>some (Value.bool z_)) e91),trivial,h⟩
      ·intro q5 w Γx Ωx h
       refine OpS.fbox (o3:=0) h .z PA.z fa147_0 rfl rfl rfl rfl ?_
       exact du h
      ·intro q5 w Γx Ωx h
       refine OpS.loadB h .z PA.a (Get.fld Delivery_.f0) ty22 rfl rfl rfl (λ u h233=>?_)
       exact ⟨u,rfl,trivial,h233⟩
      ·intro q5 w Γx Ωx h
       refine OpS.len h Tryz.underlying22 rfl rfl rfl (V.at .z) ?_
       exact du h
      ·intro q5 w Γx Ωx h
       refine OpS.bin rfl rfl rfl rfl rfl ?_
       exact du h
      ·intro q5 w Γx Ωx h
       refine OpS.pick rfl rfl rfl rfl ?_
       exact du h
      ·intro q5 w Γx Ωx h
       refine OpS.mv rfl rfl rfl ?_
       exact ⟨undef,(congrArg (λ z_=>some (Value.bool z_)) e93),trivial,h⟩
      ·intro q5 w Γx Ωx h
       refine OpS.pick rfl rfl rfl rfl ?_
       exact du h
      ·intro q5 w Γx Ωx h
       refine OpS.mv rfl rfl rfl ?_
       exact du h
      have h234:=h
      refine gp rfl (gk rfl (nil (Run.slim [(283,.bool true),(36,u51),(1,v1),(9,.int .i64 x1),(11,u30),(13,u31),(15,u4),(16,u5),(17,u6),(29,.int .i64 s12.1),(31,u38)] ⟨rfl,rfl,rfl,rfl,rfl,rfl,rfl,rfl,rfl,rfl,rfl,trivial⟩ ?_)))
      refine Run.slim [(1,v1),(9,.int .i64 x1),(11,u30),(13,u31),(15,u4),(16,u5),(17,u6),(29,.int .i64 s12.1),(31,u38),(36,u51),(283,.bool true)] ⟨rfl,rfl,rfl,rfl,rfl,rfl,rfl,rfl,rfl,rfl,rfl,trivial⟩ ?_
      exact hj9 (true) _ _ ⟨rfl,(h234.facts (.atm (.s (.s (.s (.s (.s (.s .z)))))) (.atm (.s (.s (.s (.s (.s (.s (.s .z))))))) .nil))).picks (.cons (.s (.s (.s .z))) (.cons (.s (.s (.s .z))) (.cons (.s (.s .z)) (.cons .z (.cons (.s .z) (.cons (.s .z) (.cons (.s .z) (.cons (.s .z) .nil))))))))⟩ hF
     have hG:=hF
     subst e94
     have hF:=hG
     obtain ⟨x40,e95,hF⟩:=bindP_use hF
     obtain ⟨x41,e96,hF⟩:=letP_use hF
     refine iteP_use hF (λ e97 hF=>?_) (λ e97 hF=>?_)
     ·have hG:=hF
      subst e97
      have hF:=hG
      refine Run.drawV (Ωs:=[(false,.box 241 (bus_Bus.repW u37) u30 y17.2.2),(false,.opt (fragment_Assembler.mem u31) u31 s12.2.2.2.2),(true,.oval (oslice 143 1 (λ _=>Nest_sapi_Message.orep)) u4 s3.2.2.1),(true,.oval (oslice 143 1 (λ _=>Nest_sapi_Message.orep)) u5 s12.2.1),(true,.slice 4 Rep.bool u6 s14.2),(false,.oval (oslice 256 3 (λ _=>bus_master.orep)) u37 y17.2.2.masters)]) [.k 254 (.int .i64 y19.2),.k 255 (.bool (y19.2 != 0)),.k 256 (.bool false),.kr 257 (padd u38 0) [2],.fr 258 (λ u_=>[(true,.val (Rep.slice (Rep.int .i64)) u_ y17.1.Masters)]) [2],.k 259 (.int .i64 (y17.1.Masters.length:Int)),.k 260 (.bool ((y17.1.Masters.length:Int) != 1)),.k 261 (.bool ((y17.1.Masters.length:Int) != 1)),.k 262 (.bool false),.kr 263 (padd u48 1) [1],.kr 264 (.int .u8 y18.1.From) [1],.k 265 (.int .i64 (IntKind.i64.wrap y18.1.From)),.kr 266 (padd u38 0) [2],.fr 267 (λ u_=>[(true,.val (Rep.slice (Rep.int .i64)) u_ y17.1.Masters)]) [2],.f 268 (λ u_=>[(true,.ptr (Rep.int .i64) u_ x40)]),.k 269 (.int .i64 x40),.k 270 (.int .i64 (IntKind.i64.wrap (64+x40))),.k 271 (.bool ((IntKind.i64.wrap y18.1.From) != (IntKind.i64.wrap (64+x40)))),.k 272 (.bool ((IntKind.i64.wrap y18.1.From) != (IntKind.i64.wrap (64+x40)))),.k 273 (.bool true),.k 274 undef,.k 275 undef,.k 276 undef,.k 277 undef,.k 278 undef,.k 279 undef,.k 280 undef,.k 281 undef] [[],[0],[1],[2],[3,2],[4,2],[5,2],[2,6],[7],[8],[9,8],[10,8],[8],[12,8],[13,8],[14,8],[15,8],[11,16,8],[8,17],[18],[19],[19],[19],[19],[19],[19],[19],[19]] [[(true,.box 139 Packet_.rep u51 y19.1)],[(true,.box 142 Frame_.rep u48 y18.1)],[(true,.box 147 Delivery_.rep u38 y17.1)]] [0,1,2,3,4,5,6,7,8,9,10,11,12,13,14,15,16,17,18,19,20,21,22,23,24,25,26,27,28,29,30] Try_mixed rfl rfl rfl h230 (.cons ?_ (.cons ?_ (.cons ?_ (.cons ?_ (.cons ?_ (.cons ?_ (.cons ?_ (.cons ?_ (.cons ?_ (.cons ?_ (.cons ?_ (.cons ?_ (.cons ?_ (.cons ?_ (.cons ?_ (.cons ?_ (.cons ?_ (.cons ?_ (.cons ?_ (.cons ?_ (.cons (dp λ _=>rfl) (.cons (dp λ _=>rfl) (.cons (dp λ _=>rfl) (.cons (dp λ _=>rfl) (.cons (dp λ _=>rfl) (.cons (dp λ _=>rfl) (.cons (dp λ _=>rfl) (.cons (dp λ _=>rfl) .nil)))))))))))))))))))))))))))) (λ q5 w hq7 h=>?_)
      ·intro q5 w Γx Ωx h
       refine OpS.mv rfl rfl rfl ?_
       exact du h
      ·intro q5 w Γx Ωx h
       refine OpS.bin rfl rfl rfl rfl rfl ?_
       exact du h
      ·intro q5 w Γx Ωx h
       refine OpS.mv rfl rfl rfl ?_
       exact ⟨undef,(congrArg (λ z_=>some (Value.bool z_)) e91),trivial,h⟩
      ·intro q5 w Γx Ωx h
       refine OpS.fbox (o3:=0) h .z PA.z fa147_0 rfl rfl rfl rfl ?_
       exact du h
      ·intro q5 w Γx Ωx h
       refine OpS.loadB h .z PA.a (Get.fld Delivery_.f0) ty22 rfl rfl rfl (λ u h237=>?_)
       exact ⟨u,rfl,trivial,h237⟩
      ·intro q5 w Γx Ωx h
       refine OpS.len h Tryz.underlying22 rfl rfl rfl (V.at .z) ?_
       exact du h
      ·intro q5 w Γx Ωx h
       refine OpS.bin rfl rfl rfl rfl rfl ?_
       exact du h
      ·intro q5 w Γx Ωx h
       refine OpS.pick rfl rfl rfl rfl ?_
       exact du h
      ·intro q5 w Γx Ωx h
       refine OpS.mv rfl rfl rfl ?_
       exact ⟨undef,(congrArg (λ z_=>some (Value.bool z_)) e93),trivial,h⟩
      ·intro q5 w Γx Ωx h
       refine OpS.fbox (o3:=1) h .z PA.z fa142_1 rfl rfl rfl rfl ?_
       exact du h
      ·intro q5 w Γx Ωx h
       refine OpS.loadBi h .z PA.a (Get.fld Frame_.f1) ty5 rfl rfl rfl ?_
       exact du h
      ·intro q5 w Γx Ωx h
       refine OpS.conv Tryz.underlying5 Tryz.underlying3 rfl rfl rfl ?_
       exact du h
      ·intro q5 w Γx Ωx h
       refine OpS.fbox (o3:=0) h .z PA.z fa147_0 rfl rfl rfl rfl ?_
       exact du h
      ·intro q5 w Γx Ωx h
       refine OpS.loadB h .z PA.a (Get.fld Delivery_.f0) ty22 rfl rfl rfl (λ u h238=>?_)
       exact ⟨u,rfl,trivial,h238⟩
      ·intro q5 w Γx Ωx h
       refine OpS.iptr h Tryz.underlying22 ty3 rfl rfl rfl rfl (V.at .z) e95 (λ u h239=>?_)
       exact ⟨u,rfl,trivial,h239⟩
      ·intro q5 w Γx Ωx h
       refine OpS.loadi h ty3 rfl rfl rfl .z ?_
       exact du h
      ·intro q5 w Γx Ωx h
       refine OpS.bin rfl rfl rfl rfl rfl ?_
       exact du h
      ·intro q5 w Γx Ωx h
       refine OpS.bin rfl rfl rfl rfl rfl ?_
       exact du h
      ·intro q5 w Γx Ωx h
       refine OpS.pick rfl rfl rfl rfl ?_
       exact du h
      ·intro q5 w Γx Ωx h
       refine OpS.mv rfl rfl rfl ?_
       exact ⟨undef,(congrArg (λ z_=>some (Value.bool z_)) e96),trivial,h⟩
      have h240:=h
      refine gp rfl (gk rfl (nil (Run.slim [(283,.bool true),(36,u51),(1,v1),(9,.int .i64 x1),(11,u30),(13,u31),(15,u4),(16,u5),(17,u6),(29,.int .i64 s12.1),(31,u38)] ⟨rfl,rfl,rfl,rfl,rfl,rfl,rfl,rfl,rfl,rfl,rfl,trivial⟩ ?_)))
      refine Run.slim [(1,v1),(9,.int .i64 x1),(11,u30),(13,u31),(15,u4),(16,u5),(17,u6),(29,.int .i64 s12.1),(31,u38),(36,u51),(283,.bool true)] ⟨rfl,rfl,rfl,rfl,rfl,rfl,rfl,rfl,rfl,rfl,rfl,trivial⟩ ?_
      exact hj9 (true) _ _ ⟨rfl,(h240.facts (.atm (.s (.s (.s (.s (.s (.s (.s (.s .z)))))))) (.atm (.s (.s (.s (.s (.s (.s (.s (.s (.s .z))))))))) .nil))).picks (.cons (.s (.s (.s .z))) (.cons (.s (.s (.s .z))) (.cons (.s (.s .z)) (.cons .z (.cons (.s .z) (.cons (.s .z) (.cons (.s .z) (.cons (.s .z) .nil))))))))⟩ hF
     have hG:=hF
     subst e97
     have hF:=hG
     refine Run.drawV (Ωs:=[(false,.box 241 (bus_Bus.repW u37) u30 y17.2.2),(false,.opt (fragment_Assembler.mem u31) u31 s12.2.2.2.2),(true,.oval (oslice 143 1 (λ _=>Nest_sapi_Message.orep)) u4 s3.2.2.1),(true,.oval (oslice 143 1 (λ _=>Nest_sapi_Message.orep)) u5 s12.2.1),(true,.slice 4 Rep.bool u6 s14.2),(false,.oval (oslice 256 3 (λ _=>bus_master.orep)) u37 y17.2.2.masters)]) [.k 254 (.int .i64 y19.2),.k 255 (.bool (y19.2 != 0)),.k 256 (.bool false),.kr 257 (padd u38 0) [2],.fr 258 (λ u_=>[(true,.val (Rep.slice (Rep.int .i64)) u_ y17.1.Masters)]) [2],.k 259 (.int .i64 (y17.1.Masters.length:Int)),.k 260 (.bool ((y17.1.Masters.length:Int) != 1)),.k 261 (.bool ((y17.1.Masters.length:Int) != 1)),.k 262 (.bool false),.kr 263 (padd u48 1) [1],.kr 264 (.int .u8 y18.1.From) [1],.k 265 (.int .i64 (IntKind.i64.wrap y18.1.From)),.kr 266 (padd u38 0) [2],.fr 267 (λ u_=>[(true,.val (Rep.slice (Rep.int .i64)) u_ y17.1.Masters)]) [2],.f 268 (λ u_=>[(true,.ptr (Rep.int .i64) u_ x40)]),.k 269 (.int .i64 x40),.k 270 (.int .i64 (IntKind.i64.wrap (64+x40))),.k 271 (.bool ((IntKind.i64.wrap y18.1.From) != (IntKind.i64.wrap (64+x40)))),.k 272 (.bool ((IntKind.i64.wrap y18.1.From) != (IntKind.i64.wrap (64+x40)))),.k 273 (.bool false),.kr 274 (padd u51 1) [0],.kr 275 (.int .u8 y19.1.From) [0],.k 276 (.int .i64 (IntKind.i64.wrap y19.1.From)),.kr 277 (padd u38 0) [2],.fr 278 (λ u_=>[(true,.val (Rep.slice (Rep.int .i64)) u_ y17.1.Masters)]) [2],.f 279 (λ u_=>[(true,.ptr (Rep.int .i64) u_ x40)]),.k 280 (.int .i64 x40),.k 281 (.int .i64 (IntKind.i64.wrap (10+x40)))] [[],[0],[1],[2],[3,2],[4,2],[5,2],[2,6],[7],[8],[9,8],[10,8],[8],[12,8],[13,8],[14,8],[15,8],[11,16,8],[8,17],[18],[19],[20,19],[21,19],[19],[23,19],[24,19],[25,19],[26,19]] [[(true,.box 139 Packet_.rep u51 y19.1)],[(true,.box 142 Frame_.rep u48 y18.1)],[(true,.box 147 Delivery_.rep u38 y17.1)]] [0,1,2,3,4,5,6,7,8,9,10,11,12,13,14,15,16,17,18,19,20,21,22,23,24,25,26,27,28,29,30] Try_mixed rfl rfl rfl h230 (.cons ?_ (.cons ?_ (.cons ?_ (.cons ?_ (.cons ?_ (.cons ?_ (.cons ?_ (.cons ?_ (.cons ?_ (.cons ?_ (.cons ?_ (.cons ?_ (.cons ?_ (.cons ?_ (.cons ?_ (.cons ?_ (.cons ?_ (.cons ?_ (.cons ?_ (.cons ?_ (.cons ?_ (.cons ?_ (.cons ?_ (.cons ?_ (.cons ?_ (.cons ?_ (.cons ?_ (.cons ?_ .nil)))))))))))))))))))))))))))) (λ q5 w hq8 h=>?_)
     ·intro q5 w Γx Ωx h
      refine OpS.mv rfl rfl rfl ?_
      exact du h
     ·intro q5 w Γx Ωx h
      refine OpS.bin rfl rfl rfl rfl rfl ?_
      exact du h
     ·intro q5 w Γx Ωx h
      refine OpS.mv rfl rfl rfl ?_
      exact ⟨undef,(congrArg (λ z_=>some (Value.bool z_)) e91),trivial,h⟩
     ·intro q5 w Γx Ωx h
      refine OpS.fbox (o3:=0) h .z PA.z fa147_0 rfl rfl rfl rfl ?_
      exact du h
     ·intro q5 w Γx Ωx h
      refine OpS.loadB h .z PA.a (Get.fld Delivery_.f0) ty22 rfl rfl rfl (λ u h243=>?_)
      exact ⟨u,rfl,trivial,h243⟩
     ·intro q5 w Γx Ωx h
      refine OpS.len h Tryz.underlying22 rfl rfl rfl (V.at .z) ?_
      exact du h
     ·intro q5 w Γx Ωx h
      refine OpS.bin rfl rfl rfl rfl rfl ?_
      exact du h
     ·intro q5 w Γx Ωx h
      refine OpS.pick rfl rfl rfl rfl ?_
      exact du h
     ·intro q5 w Γx Ωx h
      refine OpS.mv rfl rfl rfl ?_
      exact ⟨undef,(congrArg (λ z_=>some (Value.bool z_)) e93),trivial,h⟩
     ·intro q5 w Γx Ωx h
      refine OpS.fbox (o3:=1) h .z PA.z fa142_1 rfl rfl rfl rfl ?_
      exact du h
     ·intro q5 w Γx Ωx h
      refine OpS.loadBi h .z PA.a (Get.fld Frame_.f1) ty5 rfl rfl rfl ?_
      exact du h
     ·intro q5 w Γx Ωx h
      refine OpS.conv Tryz.underlying5 Tryz.underlying3 rfl rfl rfl ?_
      exact du h
     ·intro q5 w Γx Ωx h
      refine OpS.fbox (o3:=0) h .z PA.z fa147_0 rfl rfl rfl rfl ?_
      exact du h
     ·intro q5 w Γx Ωx h
      refine OpS.loadB h .z PA.a (Get.fld Delivery_.f0) ty22 rfl rfl rfl (λ u h244=>?_)
      exact ⟨u,rfl,trivial,h244⟩
     ·intro q5 w Γx Ωx h
      refine OpS.iptr h Tryz.underlying22 ty3 rfl rfl rfl rfl (V.at .z) e95 (λ u h245=>?_)
      exact ⟨u,rfl,trivial,h245⟩
     ·intro q5 w Γx Ωx h
      refine OpS.loadi h ty3 rfl rfl rfl .z ?_
      exact du h
     ·intro q5 w Γx Ωx h
      refine OpS.bin rfl rfl rfl rfl rfl ?_
      exact du h
     ·intro q5 w Γx Ωx h
      refine OpS.bin rfl rfl rfl rfl rfl ?_
      exact du h
     ·intro q5 w Γx Ωx h
      refine OpS.pick rfl rfl rfl rfl ?_
      exact du h
     ·intro q5 w Γx Ωx h
      refine OpS.mv rfl rfl rfl ?_
      exact ⟨undef,(congrArg (λ z_=>some (Value.bool z_)) e96),trivial,h⟩
     ·intro q5 w Γx Ωx h
      refine OpS.fbox (o3:=1) h .z PA.z fa139_1 rfl rfl rfl rfl ?_
      exact du h
     ·intro q5 w Γx Ωx h
      refine OpS.loadBi h .z PA.a (Get.fld Packet_.f1) ty5 rfl rfl rfl ?_
      exact du h
     ·intro q5 w Γx Ωx h
      refine OpS.conv Tryz.underlying5 Tryz.underlying3 rfl rfl rfl ?_
      exact du h
     ·intro q5 w Γx Ωx h
      refine OpS.fbox (o3:=0) h .z PA.z fa147_0 rfl rfl rfl rfl ?_
      exact du h
     ·intro q5 w Γx Ωx h
      refine OpS.loadB h .z PA.a (Get.fld Delivery_.f0) ty22 rfl rfl rfl (λ u h246=>?_)
      exact ⟨u,rfl,trivial,h246⟩
     ·intro q5 w Γx Ωx h
      refine OpS.iptr h Tryz.underlying22 ty3 rfl rfl rfl rfl (V.at .z) e95 (λ u h247=>?_)
      exact ⟨u,rfl,trivial,h247⟩
     ·intro q5 w Γx Ωx h
      refine OpS.loadi h ty3 rfl rfl rfl .z ?_
      exact du h
     ·intro q5 w Γx Ωx h
      refine OpS.bin rfl rfl rfl rfl rfl ?_
      exact du h
     have h248:=h
     refine gb rfl (gk rfl (nil (Run.slim [(283,.bool ((IntKind.i64.wrap y19.1.From) != (IntKind.i64.wrap (10+x40)))),(36,u51),(1,v1),(9,.int .i64 x1),(11,u30),(13,u31),(15,u4),(16,u5),(17,u6),(29,.int .i64 s12.1),(31,u38)] ⟨rfl,rfl,rfl,rfl,rfl,rfl,rfl,rfl,rfl,rfl,rfl,trivial⟩ ?_)))
     refine Run.slim [(1,v1),(9,.int .i64 x1),(11,u30),(13,u31),(15,u4),(16,u5),(17,u6),(29,.int .i64 s12.1),(31,u38),(36,u51),(283,.bool ((IntKind.i64.wrap y19.1.From) != (IntKind.i64.wrap (10+x40))))] ⟨rfl,rfl,rfl,rfl,rfl,rfl,rfl,rfl,rfl,rfl,rfl,trivial⟩ ?_
     exact hj9 ((IntKind.i64.wrap y19.1.From) != (IntKind.i64.wrap (10+x40))) _ _ ⟨rfl,(h248.facts (.atm (.s (.s (.s (.s (.s (.s (.s (.s (.s (.s .z)))))))))) (.atm (.s (.s (.s (.s (.s (.s (.s (.s (.s (.s (.s .z))))))))))) .nil))).picks (.cons (.s (.s (.s .z))) (.cons (.s (.s (.s .z))) (.cons (.s (.s .z)) (.cons .z (.cons (.s .z) (.cons (.s .z) (.cons (.s .z) (.cons (.s .z) .nil))))))))⟩ hF
    refine Run.ite rfl hF (λ e98 hF=>?_) (λ e98 hF=>?_)
    ·refine Run.reg (gm rfl (gm rfl ?_))
     obtain ⟨x42,e99,hF⟩:=bindP_use hF
     refine op (OpS.iptr h137 Tryz.underlying119 ty145 rfl rfl rfl rfl (V.at (.s .z)) e99 (λ u60 h249=>?_))
     refine op (OpS.load h249 ty145 rfl rfl rfl .z (λ u61 h250=>?_))
     have h251:=(h250.pick .z).weak
     refine op (OpS.storeB (f':=false) h251 .z PA.z Put.id ty145 rfl rfl rfl (V.at .z) (.inr rfl) (λ w69 h252=>?_))
     refine nil (Run.slim [(1,v1),(9,.int .i64 x1),(11,u30),(13,u31),(15,u4),(16,u5),(17,u6),(29,.int .i64 s12.1),(30,u33)] ⟨rfl,rfl,rfl,rfl,rfl,rfl,rfl,rfl,rfl,trivial⟩ ?_)
     exact hj7 (x42) _ _ ⟨rfl,(h252.facts (.atm (.s (.s (.s .z))) (.atm (.s (.s (.s (.s .z)))) .nil))).picks (.cons (.s (.s (.s (.s .z)))) (.cons (.s (.s (.s (.s .z)))) (.cons .z (.cons .z (.cons .z (.cons .z .nil))))))⟩ hF
    refine Run.skip ?_
    have h253:=(h137.pick .z).weak
    refine Run.slim [(1,v1),(9,.int .i64 x1),(11,u30),(13,u31),(15,u4),(16,u5),(17,u6),(29,.int .i64 s12.1),(30,u33)] ⟨rfl,rfl,rfl,rfl,rfl,rfl,rfl,rfl,rfl,trivial⟩ ?_
    exact hj7 (Fault_.z) _ _ ⟨rfl,(h253.facts (.atm (.s .z) (.atm (.s (.s .z)) .nil))).picks (.cons (.s (.s (.s (.s .z)))) (.cons (.s (.s (.s (.s .z)))) (.cons .z (.cons .z (.cons .z (.cons .z .nil))))))⟩ hF
   refine Run.exit rfl ?_
   refine Run.slim [(9,.int .i64 x1),(11,u30),(15,u4),(16,u5),(17,u6)] ⟨rfl,rfl,rfl,rfl,rfl,trivial⟩ ?_
   exact hj6 (s12.2.1,s12.2.2.1,s12.2.2.2.1) _ _ ⟨u30,rfl,(h134.facts (.atm (.s .z) .nil)).picks (.cons .z (.cons .z (.cons .z (.cons .z .nil))))⟩ hF
  refine RunL.caseb hF (λ e100 hF=>?_) (λ e100 hF=>?_)
  ·refine gp rfl (gp rfl (gk rfl (gm rfl (gp rfl (gp rfl (gk rfl (gm rfl (gp rfl (gp rfl (gk rfl (nil (Run.slim [(82,.bool true),(13,u3),(11,u2),(10,u1),(9,.int .i64 x1),(1,v1),(3,.int .i64 a3)] ⟨rfl,rfl,rfl,rfl,rfl,rfl,rfl,trivial⟩ ?_))))))))))))
   refine Run.slim [(1,v1),(3,.int .i64 a3),(9,.int .i64 x1),(10,u1),(11,u2),(13,u3),(82,.bool true)] ⟨rfl,rfl,rfl,rfl,rfl,rfl,rfl,trivial⟩ ?_
   exact hj2 (true) _ _ ⟨rfl,(h14.facts (.atm (.s .z) (.atm (.s (.s .z)) .nil))).picks (.cons (.s (.s .z)) (.cons (.s .z) (.cons .z .nil)))⟩ hF
  refine gm rfl (op (OpS.onilE2 h14 .z (λ _=>PtrOf.ex λ _=>PtrOf.sep PtrOf.box) Tryz.underlying123 rfl rfl rfl rfl ?_))
  refine gk rfl (gm rfl ?_)
  refine RunL.caseb hF (λ e101 hF=>?_) (λ e101 hF=>?_)
  ·refine gp rfl (gp rfl (gk rfl (gm rfl (gp rfl (gp rfl (gk rfl (nil (Run.slim [(82,.bool true),(13,u3),(11,u2),(10,u1),(9,.int .i64 x1),(1,v1),(3,.int .i64 a3)] ⟨rfl,rfl,rfl,rfl,rfl,rfl,rfl,trivial⟩ ?_))))))))
   refine Run.slim [(1,v1),(3,.int .i64 a3),(9,.int .i64 x1),(10,u1),(11,u2),(13,u3),(82,.bool true)] ⟨rfl,rfl,rfl,rfl,rfl,rfl,rfl,trivial⟩ ?_
   exact hj2 (true) _ _ ⟨rfl,(h14.facts (.atm (.s .z) (.atm (.s (.s .z)) .nil))).picks (.cons (.s (.s .z)) (.cons (.s .z) (.cons .z .nil)))⟩ hF
  refine gm rfl (gb rfl (gk rfl (gm rfl ?_)))
  refine RunL.caseb hF (λ e102 hF=>?_) (λ e102 hF=>?_)
  ·refine gp rfl (gp rfl (gk rfl (nil (Run.slim [(82,.bool true),(13,u3),(11,u2),(10,u1),(9,.int .i64 x1),(1,v1),(3,.int .i64 a3)] ⟨rfl,rfl,rfl,rfl,rfl,rfl,rfl,trivial⟩ ?_))))
   refine Run.slim [(1,v1),(3,.int .i64 a3),(9,.int .i64 x1),(10,u1),(11,u2),(13,u3),(82,.bool true)] ⟨rfl,rfl,rfl,rfl,rfl,rfl,rfl,trivial⟩ ?_
   exact hj2 (true) _ _ ⟨rfl,(h14.facts (.atm (.s .z) (.atm (.s (.s .z)) .nil))).picks (.cons (.s (.s .z)) (.cons (.s .z) (.cons .z .nil)))⟩ hF
  refine gm rfl (gb rfl (gk rfl (nil (Run.slim [(82,.bool (y6.2 != 0)),(13,u3),(11,u2),(10,u1),(9,.int .i64 x1),(1,v1),(3,.int .i64 a3)] ⟨rfl,rfl,rfl,rfl,rfl,rfl,rfl,trivial⟩ ?_))))
  refine Run.slim [(1,v1),(3,.int .i64 a3),(9,.int .i64 x1),(10,u1),(11,u2),(13,u3),(82,.bool (y6.2 != 0))] ⟨rfl,rfl,rfl,rfl,rfl,rfl,rfl,trivial⟩ ?_
  exact hj2 (y6.2 != 0) _ _ ⟨rfl,(h14.facts (.atm (.s .z) (.atm (.s (.s .z)) .nil))).picks (.cons (.s (.s .z)) (.cons (.s .z) (.cons .z .nil)))⟩ hF
 refine RunL.caseb hF (λ e103 hF=>?_) (λ e103 hF=>?_)
 ·refine gp rfl (gp rfl (gp rfl (gk rfl (nil (Run.slim [(0,v0),(1,v1),(2,.int .i64 a2),(3,.int .i64 a3),(54,.bool true)] ⟨rfl,rfl,rfl,rfl,rfl,trivial⟩ ?_)))))
  exact hj1 (true) _ _ ⟨rfl,(h4.facts (.atm .z (.atm (.s .z) (.atm (.s (.s .z)) .nil)))).picks .nil⟩ hF
 refine gm rfl (op (OpS.len h4 Tryz.underlying119 rfl rfl rfl (V.at (.s .z)) ?_))
 refine gb rfl (gk rfl (nil (Run.slim [(0,v0),(1,v1),(2,.int .i64 a2),(3,.int .i64 a3),(54,.bool (decide ((a1.length:Int)>300)))] ⟨rfl,rfl,rfl,rfl,rfl,trivial⟩ ?_)))
 exact hj1 (decide ((a1.length:Int)>300)) _ _ ⟨rfl,(h4.facts (.atm .z (.atm (.s .z) (.atm (.s (.s .z)) .nil)))).picks .nil⟩ hF
end Lift
