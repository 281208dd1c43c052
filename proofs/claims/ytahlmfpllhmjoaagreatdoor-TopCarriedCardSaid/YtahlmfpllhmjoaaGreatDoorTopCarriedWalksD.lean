import Derived.Test.YtahlmfpllhmjoaaGreatDoorTopCarriedWalksC
set_option linter.unusedVariables false
set_option linter.unusedSimpArgs false
namespace Lift
open Go Go.Proofs
open RunL (op sr nil gm ga gb gp gk dp du)
theorem fragment_Assembler_drop_ok {fuel:Nat} {a0:fragment_Assembler} {a1:Int} {y:fragment_Assembler} (hF:fragment_Assembler_drop fuel a0 a1=some y) {w:World} {v0 v0_0:Value} {r_:ORep fragment_open} (hr_:r_.n=6) :
  Spec Tryz.prog 140 [v0,.int .i64 a1].toArray w [] [(false,.box 245 (fragment_Assembler.repW v0_0) v0 a0),(false,.oval (oslice 267 6 (at' (λ _=>fragment_open.orep) (a1).toNat r_)) v0_0 a0.open_)] (λ v Γr Ωr Ωo=>∃ w0_0:Value,v=.tuple #[]∧Γr=[]∧Ωr=[]∧Ωo=[(false,.box 245 (fragment_Assembler.repW w0_0) v0 y),(false,(.oval (oslice 267 6 (λ _=>fragment_open.orep)) w0_0 y.open_))]):=by
 refine Spec.of (L:=[(0,v0),(1,.int .i64 a1)]) Tryz.func140 rfl ⟨rfl,rfl,trivial⟩ rfl (λ e h=>?_)
 unfold fragment_Assembler_drop at hF
 refine Run.reg (gm rfl (gm rfl (op (OpS.nchk h .z rfl rfl rfl ?_))))
 refine op (OpS.fbox (o3:=1) h .z PA.z fa245_1 rfl rfl rfl rfl ?_)
 refine op (OpS.loadR h .z PA.a (GetS.ok (GetS.iso _ (GetS.there (GetS.here GetS.id)))) ty243 rfl rfl rfl rfl rfl ?_)
 refine gm rfl (gm rfl (gb rfl ?_))
 obtain ⟨y1,e1,hF⟩:=bindP_use hF
 have h1:=h.front (.cons (.s .z) .nil)
 refine op (OpS.callO h1 Tryz.func200 rfl rfl rfl rfl (vs:=[v0_0,.int .i64 a1,.int .i64 (IntKind.i64.wrap (a1+1))]) rfl (slices_Delete_fragment_open_fragment_open_ok e1 (r_:=r_) (hr_:=hr_)) rfl .nil ?_)
 rintro u1 w1 _ _ _ ⟨_,rfl,rfl,rfl,rfl⟩ h2
 have h3:=h2
 simp only [ca,na] at h3
 refine op (OpS.nchk h3 (.s .z) rfl rfl rfl ?_)
 refine op (OpS.fbox (o3:=1) h3 (.s .z) PA.z fa245_1 rfl rfl rfl rfl ?_)
 refine op (OpS.storeC (f':=false) (fr:=(Rep.raw u1)) (r':=(fragment_Assembler.repW u1)) (x':=a0) h3 (.s .z) PA.a (Chg.iso _ (Chg.there (Chg.here (Chg.id (by rfl))))) (Ty.like ty243 (by rfl) (by rfl)) rfl rfl rfl (V.raw (f:=false) (St.ownD h3 .z) a0.open_) (.inr rfl) (λ w2 h4=>?_))
 refine nil ?_
 have h5:=St.boxJ (r':=(fragment_Assembler.repW u1)) (x':={ a0 with open_:=y1 }) (h4.pick .z) (λ _ _ hs_=>(Jn.iso _ (Jn.prod Jn.refl (Jn.prod Jn.same Jn.refl))))
 refine Run.finP rfl .nil ?_
 cases hF
 exact Post.mk' ⟨u1,rfl,rfl,rfl,rfl⟩ (h5.picks (.cons .z (.cons .z .nil))) .nil
set_option maxHeartbeats 8000000 in set_option maxRecDepth 20000 in
theorem fragment_Assembler_begin_ok {fuel:Nat} {a0:fragment_Assembler} {a1:Packet_} {y:Whole_×Bool×fragment_Assembler} (hF:fragment_Assembler_begin fuel a0 a1=some y) {w:World} {v0 v0_0 v1:Value} :
  Spec Tryz.prog 138 [v0,v1].toArray w [(false,.val Packet_.rep v1 a1)] [(false,.box 245 (fragment_Assembler.repW v0_0) v0 a0),(false,.oval (oslice 267 6 (λ _=>fragment_open.orep)) v0_0 a0.open_)] (λ v Γr Ωr Ωo=>∃ u0 w0_0:Value,v=.tuple #[u0,.bool y.2.1]∧Γr=[(true,.val Whole_.rep u0 y.1)]∧Ωr=[]∧Ωo=[(false,.box 245 (fragment_Assembler.repW w0_0) v0 y.2.2),(false,(.oval (oslice 267 6 (λ _=>fragment_open.orep)) w0_0 y.2.2.open_))]):=by
 refine Spec.of (L:=[(0,v0),(1,v1)]) Tryz.func138 rfl ⟨rfl,rfl,trivial⟩ rfl (λ e h=>?_)
 unfold fragment_Assembler_begin at hF
 refine sr (op (OpS.boxF h rfl rfl rfl (V.at .z) (λ u1 w1 h1=>?_)))
 refine op (OpS.alloc h1 ti155 Whole_.zr rfl rfl (λ u2 w2 h2=>?_))
 refine ga rfl (nil (Run.seq (sr (gm rfl (op (OpS.loadB h2 (.s .z) PA.z Get.id ty139 rfl rfl rfl (λ u3 h3=>?_)))))))
 obtain ⟨y1,e1,hF⟩:=bindP_use hF
 have h4:=h3.front (.cons (.s (.s .z)) (.cons (.s (.s .z)) .nil))
 refine op (OpS.callO h4 Tryz.func139 rfl rfl rfl rfl (vs:=[v0,u3]) rfl (fragment_Assembler_find_ok e1) rfl (.cons (f:=false) (V.at .z) .nil) ?_)
 rintro _ w3 _ _ _ ⟨rfl,rfl,rfl,rfl⟩ h5
 have h6:=h5
 simp only [ca,na] at h6
 refine ga rfl (nil (sr (gm rfl (gb rfl (nil ?_)))))
 refine Run.join (σ:=fragment_Assembler) (λ s_ L_ w_=>∃ u0_:Value,L_=[(0,v0),(3,u1),(4,u2)]∧St e w_ [] [(false,.box 245 (fragment_Assembler.repW u0_) v0 s_),(false,.box 139 Packet_.rep u1 a1),(true,.box 155 Whole_.rep u2 Whole_.z),(false,.oval (oslice 267 6 (λ _=>fragment_open.orep)) u0_ s_.open_)]) hF (λ s1 _ w4 hI hF=>?_) (λ j1 hj1 hF=>?_)
 ·obtain ⟨u4,rfl,h7⟩:=hI
  refine Run.seq ?_
  have h8:=h7.picks (.cons (.s .z) (.cons .z (.cons .z (.cons .z .nil))))
  obtain ⟨y2,e2,hF⟩:=bindP_use hF
  refine Run.drawV (Ωs:=[(false,.box 245 (fragment_Assembler.repW u4) v0 s1),(true,.box 155 Whole_.rep u2 Whole_.z),(false,.oval (oslice 267 6 (λ _=>fragment_open.orep)) u4 s1.open_)]) [.kr 16 (padd u1 1) [0],.kr 17 (.int .u8 a1.From) [0],.kr 18 (padd u1 5) [0],.kr 19 (.bool a1.Owner) [0],.kr 20 (padd u1 6) [0],.kr 21 (.int .i64 a1.Tag) [0],.kr 22 (padd u1 7) [0],.fr 23 (λ u_=>[(false,.val (Rep.slice (Rep.int .u8)) u_ a1.Data)]) [0],⟨some 24,none,λ u_=>[],λ ds_ u_=>[(true,.slice 5 (Rep.int .u8) u_ y2)],[],[],none⟩,⟨some 25,none,λ u_=>[],λ ds_ u_=>[(true,.oval Whole_.orep u_ (⟨a1.From,a1.Owner,a1.Tag,y2⟩:Whole_))],[9],[],none⟩,⟨some 7,none,λ u_=>[],λ ds_ u_=>[(true,.box 155 Whole_.rep u_ Whole_.z)],[],[],none⟩] [[],[0],[],[2],[],[4],[],[6],[7],[1,3,5,8],[]] [[(false,.box 139 Packet_.rep u1 a1)]] [0,1,2,3,4,5,6,7,8,10,11] Try_mixed rfl rfl rfl h8 (.cons ?_ (.cons ?_ (.cons ?_ (.cons ?_ (.cons ?_ (.cons ?_ (.cons ?_ (.cons ?_ (.cons ?_ (.cons ?_ (.cons ?_ .nil))))))))))) (λ q1 w hq1 h=>?_)
  ·intro q1 w Γx Ωx h
   refine OpS.fbox (o3:=1) h .z PA.z fa139_1 rfl rfl rfl rfl ?_
   exact du h
  ·intro q1 w Γx Ωx h
   refine OpS.loadBi h .z PA.a (Get.fld Packet_.f1) ty5 rfl rfl rfl ?_
   exact du h
  ·intro q1 w Γx Ωx h
   refine OpS.fbox (o3:=5) h .z PA.z fa139_5 rfl rfl rfl rfl ?_
   exact du h
  ·intro q1 w Γx Ωx h
   refine OpS.loadBb h .z PA.a (Get.fld Packet_.f5) ty4 rfl rfl rfl ?_
   exact du h
  ·intro q1 w Γx Ωx h
   refine OpS.fbox (o3:=6) h .z PA.z fa139_6 rfl rfl rfl rfl ?_
   exact du h
  ·intro q1 w Γx Ωx h
   refine OpS.loadBi h .z PA.a (Get.fld Packet_.f6) ty3 rfl rfl rfl ?_
   exact du h
  ·intro q1 w Γx Ωx h
   refine OpS.fbox (o3:=7) h .z PA.z fa139_7 rfl rfl rfl rfl ?_
   exact du h
  ·intro q1 w Γx Ωx h
   refine OpS.loadB h .z PA.a (Get.fld Packet_.f7) ty24 rfl rfl rfl (λ u h14=>?_)
   exact ⟨u,rfl,trivial,h14⟩
  ·intro q1 w Γx Ωx h
   refine OpS.callP h Tryz.func113 rfl rfl rfl rfl (vs:=[(q1 7)]) rfl (slices_Clone_byte_byte_ok e2) (.cons (f:=false) (V.at .z) .nil) ?_
   rintro u w7 _ _ _ ⟨_,rfl,rfl,rfl,rfl⟩ h15
   have h16:=h15 rfl rfl
   simp only [ca,na] at h16
   exact ⟨u,rfl,trivial,h16⟩
  ·intro q1 w Γx Ωx h
   refine OpS.buildC (f:=true) (r:=Whole_.rep) (x:=Whole_.z) (r':=(Rep.iso (λ s:Whole_=>(s.From,s.Owner,s.Tag,s.Data,())) (Rep.prod (Rep.int .u8) (Rep.prod Rep.bool (Rep.prod (Rep.int .i64) (Rep.prod (Rep.raw (α:=List Int) (q1 8)) Rep.unit)))))) (x':=(⟨a1.From,a1.Owner,a1.Tag,[]⟩:Whole_)) h pl155 ti155 Whole_.zr rfl rfl rfl (.cons (Rep.int .u8) Whole_.rep Whole_.rep Whole_.z (⟨a1.From,false,0,[]⟩:Whole_) (Chg.iso _ (Chg.here (Chg.id (by rfl)))) rfl rfl V.int (.cons Rep.bool Whole_.rep Whole_.rep (⟨a1.From,false,0,[]⟩:Whole_) (⟨a1.From,a1.Owner,0,[]⟩:Whole_) (Chg.iso _ (Chg.there (Chg.here (Chg.id (by rfl))))) rfl rfl V.bool (.cons (Rep.int .i64) Whole_.rep Whole_.rep (⟨a1.From,a1.Owner,0,[]⟩:Whole_) (⟨a1.From,a1.Owner,a1.Tag,[]⟩:Whole_) (Chg.iso _ (Chg.there (Chg.there (Chg.here (Chg.id (by rfl)))))) rfl rfl V.int (.cons (Rep.raw (q1 8)) Whole_.rep (Rep.iso (λ s:Whole_=>(s.From,s.Owner,s.Tag,s.Data,())) (Rep.prod (Rep.int .u8) (Rep.prod Rep.bool (Rep.prod (Rep.int .i64) (Rep.prod (Rep.raw (α:=List Int) (q1 8)) Rep.unit))))) (⟨a1.From,a1.Owner,a1.Tag,[]⟩:Whole_) (⟨a1.From,a1.Owner,a1.Tag,[]⟩:Whole_) (Chg.iso _ (Chg.there (Chg.there (Chg.there (Chg.here (Chg.id (by rfl))))))) rfl rfl (V.raw (f:=true) (St.own1 h .z) []) .nil)))) (λ u h17=>?_)
   have h18:=h17.pick .z
   have h19:=h18.toO
   have h20:=St.closeV (E:=Whole_.orep) (s:=(Rep.iso (λ s:Whole_=>(s.From,s.Owner,s.Tag,s.Data,())) (Rep.prod (Rep.int .u8) (Rep.prod Rep.bool (Rep.prod (Rep.int .i64) (Rep.prod (Rep.raw (α:=List Int) (q1 8)) Rep.unit)))))) (x:=(⟨a1.From,a1.Owner,a1.Tag,[]⟩:Whole_)) (x':=(⟨a1.From,a1.Owner,a1.Tag,y2⟩:Whole_)) h19 (V.at .z) rfl (Whole_.joW (Jo.raw rfl))
   have h21:=St.unfact h20 .z
   exact ⟨u,rfl,trivial,h21⟩
  ·intro q1 w Γx Ωx h
   refine OpS.alloc h ti155 Whole_.zr rfl rfl (λ u w8 h22=>?_)
   exact ⟨u,rfl,trivial,h22⟩
  have h23:=h
  obtain ⟨u5,h24⟩:=St.openV (F':=λ v_=>Whole_.orepW (raw v_)) (s:=λ v_=>Whole_.hrepW (Rep.raw v_)) (h23.pick (.s .z)) (λ v_=>Whole_.lenO v_) (λ _=>Whole_.wkW Wk.raw) rfl (λ _=>rfl) rfl
  refine op (OpS.storeC (f':=true) (fr:=(Rep.iso (λ s:Whole_=>(s.From,s.Owner,s.Tag,s.Data,())) (Rep.prod (Rep.int .u8) (Rep.prod Rep.bool (Rep.prod (Rep.int .i64) (Rep.prod (Rep.raw (α:=List Int) u5) Rep.unit)))))) (r':=(Rep.iso (λ s:Whole_=>(s.From,s.Owner,s.Tag,s.Data,())) (Rep.prod (Rep.int .u8) (Rep.prod Rep.bool (Rep.prod (Rep.int .i64) (Rep.prod (Rep.raw (α:=List Int) u5) Rep.unit)))))) (x':=(⟨a1.From,a1.Owner,a1.Tag,y2⟩:Whole_)) h24 (.s (.s .z)) PA.z (Chg.id (by rfl)) (Ty.like ty155 (by rfl) (by rfl)) rfl rfl rfl (V.at .z) (.inl rfl) (λ w9 h25=>?_))
  refine nil (Run.seq (sr (op (OpS.fbox (o3:=3) h25 (.s (.s .z)) PA.z fa139_3 rfl rfl rfl rfl ?_))))
  refine op (OpS.loadBb h25 (.s (.s .z)) PA.a (Get.fld Packet_.f3) ty4 rfl rfl rfl ?_)
  refine nil ?_
  refine Run.ite rfl hF (λ e3 hF=>?_) (λ e3 hF=>?_)
  ·refine sr (op (OpS.loadB (fr:=(Rep.iso (λ s:Whole_=>(s.From,s.Owner,s.Tag,s.Data,())) (Rep.prod (Rep.int .u8) (Rep.prod Rep.bool (Rep.prod (Rep.int .i64) (Rep.prod (Rep.raw (α:=List Int) u5) Rep.unit)))))) h25 .z PA.z (GetS.ok GetS.id) (Ty.like ty155 (by rfl) (by rfl)) rfl rfl rfl (λ u6 h26=>?_)))
   refine op (OpS.storeC (f':=true) (fr:=(Rep.iso (λ s:Whole_=>(s.From,s.Owner,s.Tag,s.Data,())) (Rep.prod (Rep.int .u8) (Rep.prod Rep.bool (Rep.prod (Rep.int .i64) (Rep.prod (Rep.raw (α:=List Int) u5) Rep.unit)))))) (r':=(Rep.iso (λ s:Whole_=>(s.From,s.Owner,s.Tag,s.Data,())) (Rep.prod (Rep.int .u8) (Rep.prod Rep.bool (Rep.prod (Rep.int .i64) (Rep.prod (Rep.raw (α:=List Int) u5) Rep.unit)))))) (x':=(⟨a1.From,a1.Owner,a1.Tag,y2⟩:Whole_)) h26 (.s (.s (.s (.s .z)))) PA.z (Chg.id (by rfl)) (Ty.like ty155 (by rfl) (by rfl)) rfl rfl rfl (V.at .z) (.inl rfl) (λ w10 h27=>?_))
   refine ga rfl (nil ?_)
   obtain ⟨u7,hu1,h28⟩:=res_box h27 .z (Ty.like ty155 (by rfl) (by rfl))
   have h29:=(h28.pick (.s (.s .z))).freezeD
   have h30:=h29.pick .z
   have h31:=St.boxJ (r':=Whole_.rep) (x':=(⟨a1.From,a1.Owner,a1.Tag,y2⟩:Whole_)) h30 (λ _ _ hs_=>(Jn.iso _ (Jn.prod Jn.refl (Jn.prod Jn.refl (Jn.prod Jn.refl (Jn.prod (Jn.raw ((V.at .z) _ _ hs_) rfl) Jn.refl))))))
   have h32:=h31.pick (.s .z)
   have h33:=St.boxJ (r':=Whole_.rep) (x':=(⟨a1.From,a1.Owner,a1.Tag,y2⟩:Whole_)) h32 (λ _ _ hs_=>(Jn.iso _ (Jn.prod Jn.refl (Jn.prod Jn.refl (Jn.prod Jn.refl (Jn.prod (Jn.raw ((V.at .z) _ _ hs_) rfl) Jn.refl))))))
   have h34:=St.addV (f:=true) (r:=Whole_.rep) (x:=(⟨a1.From,a1.Owner,a1.Tag,y2⟩:Whole_)) h33 (V.jn (r:=(Rep.iso (λ s:Whole_=>(s.From,s.Owner,s.Tag,s.Data,())) (Rep.prod (Rep.int .u8) (Rep.prod Rep.bool (Rep.prod (Rep.int .i64) (Rep.prod (Rep.raw (α:=List Int) u5) Rep.unit)))))) (x:=(⟨a1.From,a1.Owner,a1.Tag,y2⟩:Whole_)) (V.at (.s .z)) rfl (λ _ _ hs_=>(Jn.iso _ (Jn.prod Jn.refl (Jn.prod Jn.refl (Jn.prod Jn.refl (Jn.prod (Jn.raw ((V.at .z) _ _ hs_) rfl) Jn.refl)))))))
   refine Run.retP rfl (.cell rfl hu1 (.tmp rfl .nil)) ?_
   cases hF
   exact Post.mk' ⟨u7,u4,rfl,rfl,rfl,rfl⟩ (h34.picks (.cons (.s (.s (.s .z))) (.cons (.s (.s (.s .z))) .nil))) (.val (V.at .z) .nil)
  refine Run.skip (Run.seq (sr (gm rfl (op (OpS.nchk h25 (.s (.s (.s .z))) rfl rfl rfl ?_)))))
  refine op (OpS.fbox (o3:=1) h25 (.s (.s (.s .z))) PA.z fa245_1 rfl rfl rfl rfl ?_)
  refine op (OpS.loadR h25 (.s (.s (.s .z))) PA.a (GetS.ok (GetS.iso _ (GetS.there (GetS.here GetS.id)))) ty243 rfl rfl rfl rfl rfl ?_)
  refine op (OpS.lenD h25 (.s (.s (.s (.s (.s .z))))) Tryz.underlying243 rfl rfl rfl ?_)
  refine gb rfl (nil ?_)
  refine Run.join (σ:=fragment_Assembler) (λ s_ L_ w_=>∃ u0_:Value,L_=[(0,v0),(3,u1),(4,u2),(7,(q1 10))]∧St e w_ [] [(false,.box 245 (fragment_Assembler.repW u0_) v0 s_),(false,.box 139 Packet_.rep u1 a1),(true,.box 155 Whole_.rep u2 Whole_.z),(true,.box 155 (Rep.iso (λ s:Whole_=>(s.From,s.Owner,s.Tag,s.Data,())) (Rep.prod (Rep.int .u8) (Rep.prod Rep.bool (Rep.prod (Rep.int .i64) (Rep.prod (Rep.raw (α:=List Int) u5) Rep.unit))))) (q1 10) (⟨a1.From,a1.Owner,a1.Tag,y2⟩:Whole_)),(false,.oval (oslice 267 6 (λ _=>fragment_open.orep)) u0_ s_.open_),(true,.oval (oslice 5 1 (λ _=>(sh (Rep.int .u8)))) u5 y2)]) hF (λ s2 _ w11 hI hF=>?_) (λ j2 hj2 hF=>?_)
  ·obtain ⟨u8,rfl,h35⟩:=hI
   refine Run.seq ?_
   have h36:=h35.picks (.cons .z (.cons .z (.cons (.s .z) (.cons (.s .z) (.cons (.s .z) (.cons .z .nil))))))
   have h41:=(h36.pick .z).weak
   obtain ⟨x1,e4,hF⟩:=bindP_use hF
   refine Run.drawV (Ωs:=[(true,.box 155 Whole_.rep u2 Whole_.z)]) [.k 37 v0,.k 38 v0,.kr 39 v0 [0],.kr 40 (padd v0 1) [0],.kr 41 u8 [0],.fr 42 (λ u_=>[(true,.val (Rep.iso (λ s:Whole_=>(s.From,s.Owner,s.Tag,s.Data,())) (Rep.prod (Rep.int .u8) (Rep.prod Rep.bool (Rep.prod (Rep.int .i64) (Rep.prod (Rep.raw (α:=List Int) u5) Rep.unit))))) u_ (⟨a1.From,a1.Owner,a1.Tag,y2⟩:Whole_))]) [2],.kr 43 (padd u1 7) [1],.fr 44 (λ u_=>[(false,.val (Rep.slice (Rep.int .u8)) u_ a1.Data)]) [1],.k 45 (.int .i64 (a1.Data.length:Int)),.kr 46 (padd u1 4) [1],.kr 47 (.int .i64 a1.Sequence) [1],⟨some 48,none,λ u_=>[(true,.val (Rep.iso (λ s:fragment_open=>(s.whole,s.size,s.last,())) (Rep.prod (Rep.iso (λ s:Whole_=>(s.From,s.Owner,s.Tag,s.Data,())) (Rep.prod (Rep.int .u8) (Rep.prod Rep.bool (Rep.prod (Rep.int .i64) (Rep.prod (Rep.raw (α:=List Int) u5) Rep.unit))))) (Rep.prod (Rep.int .i64) (Rep.prod (Rep.int .i64) Rep.unit)))) u_ (⟨(⟨a1.From,a1.Owner,a1.Tag,y2⟩:Whole_),(a1.Data.length:Int),a1.Sequence⟩:fragment_open))],λ ds_ u_=>[],[],[(4,[12,11])],none⟩,⟨some 49,none,λ u_=>[],λ ds_ u_=>[(true,.oval (oslice 267 6 (λ _=>fragment_open.orep)) u_ ([(⟨(⟨a1.From,a1.Owner,a1.Tag,y2⟩:Whole_),(a1.Data.length:Int),a1.Sequence⟩:fragment_open)]))],[4],[],none⟩,⟨some 50,none,λ u_=>[],λ ds_ u_=>[(false,.oval (oslice 267 6 (λ _=>fragment_open.orep)) u_ x1)],[17,3],[],none⟩] [[],[],[1],[2],[3],[],[],[6],[7],[],[9],[5,8,10],[11],[4,12]] [[(false,.box 245 (fragment_Assembler.repW u8) v0 s2)],[(false,.box 139 Packet_.rep u1 a1)],[(true,.box 155 (Rep.iso (λ s:Whole_=>(s.From,s.Owner,s.Tag,s.Data,())) (Rep.prod (Rep.int .u8) (Rep.prod Rep.bool (Rep.prod (Rep.int .i64) (Rep.prod (Rep.raw (α:=List Int) u5) Rep.unit))))) (q1 10) (⟨a1.From,a1.Owner,a1.Tag,y2⟩:Whole_))],[(false,.oval (oslice 267 6 (λ _=>fragment_open.orep)) u8 s2.open_)],[(true,.oval (oslice 5 1 (λ _=>(sh (Rep.int .u8)))) u5 y2)]] [0,1,2,5,6,7,8,9,10,11,12,13,14,15,16,18] Try_mixed rfl rfl rfl h36 (.cons ?_ (.cons ?_ (.cons ?_ (.cons ?_ (.cons ?_ (.cons ?_ (.cons ?_ (.cons ?_ (.cons ?_ (.cons ?_ (.cons ?_ (.cons ?_ (.cons ?_ (.cons ?_ .nil)))))))))))))) (λ q2 w hq2 h=>?_)
   ·intro q2 w Γx Ωx h
    refine OpS.mv rfl rfl rfl ?_
    exact du h
   ·intro q2 w Γx Ωx h
    refine OpS.mv rfl rfl rfl ?_
    exact du h
   ·intro q2 w Γx Ωx h
    refine OpS.nchk h .z rfl rfl rfl ?_
    exact du h
   ·intro q2 w Γx Ωx h
    refine OpS.fbox (o3:=1) h .z PA.z fa245_1 rfl rfl rfl rfl ?_
    exact du h
   ·intro q2 w Γx Ωx h
    refine OpS.loadR h .z PA.a (GetS.ok (GetS.iso _ (GetS.there (GetS.here GetS.id)))) ty243 rfl rfl rfl rfl rfl ?_
    exact du h
   ·intro q2 w Γx Ωx h
    refine OpS.loadB (fr:=(Rep.iso (λ s:Whole_=>(s.From,s.Owner,s.Tag,s.Data,())) (Rep.prod (Rep.int .u8) (Rep.prod Rep.bool (Rep.prod (Rep.int .i64) (Rep.prod (Rep.raw (α:=List Int) u5) Rep.unit)))))) h .z PA.z (GetS.ok GetS.id) (Ty.like ty155 (by rfl) (by rfl)) rfl rfl rfl (λ u h44=>?_)
    exact ⟨u,rfl,trivial,h44⟩
   ·intro q2 w Γx Ωx h
    refine OpS.fbox (o3:=7) h .z PA.z fa139_7 rfl rfl rfl rfl ?_
    exact du h
   ·intro q2 w Γx Ωx h
    refine OpS.loadB h .z PA.a (Get.fld Packet_.f7) ty24 rfl rfl rfl (λ u h45=>?_)
    exact ⟨u,rfl,trivial,h45⟩
   ·intro q2 w Γx Ωx h
    refine OpS.len h Tryz.underlying24 rfl rfl rfl (V.at .z) ?_
    exact du h
   ·intro q2 w Γx Ωx h
    refine OpS.fbox (o3:=4) h .z PA.z fa139_4 rfl rfl rfl rfl ?_
    exact du h
   ·intro q2 w Γx Ωx h
    refine OpS.loadBi h .z PA.a (Get.fld Packet_.f4) ty3 rfl rfl rfl ?_
    exact du h
   ·intro q2 w Γx Ωx h
    refine OpS.buildC (f:=true) (r:=fragment_open.rep) (x:=fragment_open.z) (r':=(Rep.iso (λ s:fragment_open=>(s.whole,s.size,s.last,())) (Rep.prod (Rep.iso (λ s:Whole_=>(s.From,s.Owner,s.Tag,s.Data,())) (Rep.prod (Rep.int .u8) (Rep.prod Rep.bool (Rep.prod (Rep.int .i64) (Rep.prod (Rep.raw (α:=List Int) u5) Rep.unit))))) (Rep.prod (Rep.int .i64) (Rep.prod (Rep.int .i64) Rep.unit))))) (x':=(⟨(⟨a1.From,a1.Owner,a1.Tag,y2⟩:Whole_),(a1.Data.length:Int),a1.Sequence⟩:fragment_open)) h pl267 ti267 fragment_open.zr rfl rfl rfl (.cons (Rep.iso (λ s:Whole_=>(s.From,s.Owner,s.Tag,s.Data,())) (Rep.prod (Rep.int .u8) (Rep.prod Rep.bool (Rep.prod (Rep.int .i64) (Rep.prod (Rep.raw (α:=List Int) u5) Rep.unit))))) fragment_open.rep (Rep.iso (λ s:fragment_open=>(s.whole,s.size,s.last,())) (Rep.prod (Rep.iso (λ s:Whole_=>(s.From,s.Owner,s.Tag,s.Data,())) (Rep.prod (Rep.int .u8) (Rep.prod Rep.bool (Rep.prod (Rep.int .i64) (Rep.prod (Rep.raw (α:=List Int) u5) Rep.unit))))) (Rep.prod (Rep.int .i64) (Rep.prod (Rep.int .i64) Rep.unit)))) fragment_open.z (⟨(⟨a1.From,a1.Owner,a1.Tag,y2⟩:Whole_),0,0⟩:fragment_open) (Chg.iso _ (Chg.here (Chg.id (by rfl)))) rfl rfl (V.at .z) (.cons (Rep.int .i64) (Rep.iso (λ s:fragment_open=>(s.whole,s.size,s.last,())) (Rep.prod (Rep.iso (λ s:Whole_=>(s.From,s.Owner,s.Tag,s.Data,())) (Rep.prod (Rep.int .u8) (Rep.prod Rep.bool (Rep.prod (Rep.int .i64) (Rep.prod (Rep.raw (α:=List Int) u5) Rep.unit))))) (Rep.prod (Rep.int .i64) (Rep.prod (Rep.int .i64) Rep.unit)))) (Rep.iso (λ s:fragment_open=>(s.whole,s.size,s.last,())) (Rep.prod (Rep.iso (λ s:Whole_=>(s.From,s.Owner,s.Tag,s.Data,())) (Rep.prod (Rep.int .u8) (Rep.prod Rep.bool (Rep.prod (Rep.int .i64) (Rep.prod (Rep.raw (α:=List Int) u5) Rep.unit))))) (Rep.prod (Rep.int .i64) (Rep.prod (Rep.int .i64) Rep.unit)))) (⟨(⟨a1.From,a1.Owner,a1.Tag,y2⟩:Whole_),0,0⟩:fragment_open) (⟨(⟨a1.From,a1.Owner,a1.Tag,y2⟩:Whole_),(a1.Data.length:Int),0⟩:fragment_open) (Chg.iso _ (Chg.there (Chg.here (Chg.id (by rfl))))) rfl rfl V.int (.cons (Rep.int .i64) (Rep.iso (λ s:fragment_open=>(s.whole,s.size,s.last,())) (Rep.prod (Rep.iso (λ s:Whole_=>(s.From,s.Owner,s.Tag,s.Data,())) (Rep.prod (Rep.int .u8) (Rep.prod Rep.bool (Rep.prod (Rep.int .i64) (Rep.prod (Rep.raw (α:=List Int) u5) Rep.unit))))) (Rep.prod (Rep.int .i64) (Rep.prod (Rep.int .i64) Rep.unit)))) (Rep.iso (λ s:fragment_open=>(s.whole,s.size,s.last,())) (Rep.prod (Rep.iso (λ s:Whole_=>(s.From,s.Owner,s.Tag,s.Data,())) (Rep.prod (Rep.int .u8) (Rep.prod Rep.bool (Rep.prod (Rep.int .i64) (Rep.prod (Rep.raw (α:=List Int) u5) Rep.unit))))) (Rep.prod (Rep.int .i64) (Rep.prod (Rep.int .i64) Rep.unit)))) (⟨(⟨a1.From,a1.Owner,a1.Tag,y2⟩:Whole_),(a1.Data.length:Int),0⟩:fragment_open) (⟨(⟨a1.From,a1.Owner,a1.Tag,y2⟩:Whole_),(a1.Data.length:Int),a1.Sequence⟩:fragment_open) (Chg.iso _ (Chg.there (Chg.there (Chg.here (Chg.id (by rfl)))))) rfl rfl V.int .nil))) (λ u h46=>?_)
    exact ⟨u,rfl,trivial,h46⟩
   ·intro q2 w Γx Ωx h
    refine OpS.litO (r:=(Rep.iso (λ s:fragment_open=>(s.whole,s.size,s.last,())) (Rep.prod (Rep.iso (λ s:Whole_=>(s.From,s.Owner,s.Tag,s.Data,())) (Rep.prod (Rep.int .u8) (Rep.prod Rep.bool (Rep.prod (Rep.int .i64) (Rep.prod (Rep.raw (α:=List Int) u5) Rep.unit))))) (Rep.prod (Rep.int .i64) (Rep.prod (Rep.int .i64) Rep.unit))))) (f:=true) h Tryz.underlying243 ti267 rfl rfl rfl rfl rfl (.cons rfl (V.at .z) .nil) rfl rfl (λ u w14 h47=>?_)
    have h48:=h47.front (.cons (.s .z) (.cons .z .nil))
    have h49:=h48.pick (.s .z)
    have h50:=St.litD (r:=fragment_open.orep) (x':=(⟨(⟨a1.From,a1.Owner,a1.Tag,y2⟩:Whole_),(a1.Data.length:Int),a1.Sequence⟩:fragment_open)) h49 (.inl rfl) rfl (fragment_open.joW (Jo.raw rfl))
    exact ⟨u,rfl,trivial,h50⟩
   ·intro q2 w Γx Ωx h
    have h51:=(h.pick .z).weak
    have h52:=h51.front (.cons (.s .z) (.cons .z .nil))
    refine OpS.appDD h52 Tryz.underlying243 ti267 rfl rfl rfl rfl rfl rfl rfl rfl e4 (λ u w15 h53=>?_)
    exact ⟨u,rfl,trivial,h53⟩
   have h54:=h
   refine op (OpS.nchk h54 .z rfl rfl rfl ?_)
   refine op (OpS.fbox (o3:=1) h54 .z PA.z fa245_1 rfl rfl rfl rfl ?_)
   refine op (OpS.storeC (f':=false) (fr:=(Rep.raw (q2 13))) (r':=(fragment_Assembler.repW (q2 13))) (x':=s2) h54 .z PA.a (Chg.iso _ (Chg.there (Chg.here (Chg.id (by rfl))))) (Ty.like ty243 (by rfl) (by rfl)) rfl rfl rfl (V.raw (f:=false) (St.ownD h54 (.s (.s (.s .z)))) s2.open_) (.inr rfl) (λ w16 h55=>?_))
   refine nil (sr (op (OpS.build (f:=true) (x':=Whole_.z) h55 pl155 ti155 Whole_.zr rfl rfl rfl .nil (λ u9 h56=>?_))))
   refine op (OpS.storeB (f':=true) h56 (.s (.s (.s (.s .z)))) PA.z Put.id ty155 rfl rfl rfl (V.at .z) (.inl rfl) (λ w17 h57=>?_))
   refine ga rfl (nil ?_)
   obtain ⟨u10,hu2,h58⟩:=res_box h57 .z ty155
   have h59:=St.boxJ (r':=(fragment_Assembler.repW (q2 13))) (x':={ s2 with open_:=x1 }) (h58.pick (.s .z)) (λ _ _ hs_=>(Jn.iso _ (Jn.prod Jn.refl (Jn.prod Jn.same Jn.refl))))
   refine Run.retP rfl (.cell rfl hu2 (.tmp rfl .nil)) ?_
   cases hF
   exact Post.mk' ⟨u10,(q2 13),rfl,rfl,rfl,rfl⟩ (h59.picks (.cons .z (.cons (.s (.s (.s .z))) .nil))) (.val (V.at .z) .nil)
  refine Run.ite rfl hF (λ e5 hF=>?_) (λ e5 hF=>?_)
  ·refine Run.reg (gm rfl ?_)
   obtain ⟨y3,e6,hF⟩:=bindP_use hF
   have h60:=h25.front (.cons (.s (.s (.s .z))) (.cons (.s (.s (.s (.s .z)))) .nil))
   have h61:=St.unselfD (0:Int).toNat (h60.pick (.s .z))
   have h62:=h61.front (.cons (.s .z) (.cons .z .nil))
   refine op (OpS.callO h62 Tryz.func140 rfl rfl rfl rfl (vs:=[v0,.int .i64 0]) rfl (fragment_Assembler_drop_ok e6 (r_:=fragment_open.orep) (hr_:=rfl)) rfl .nil ?_)
   rintro _ w18 _ _ _ ⟨u11,rfl,rfl,rfl,rfl⟩ h63
   have h64:=h63
   simp only [ca,na] at h64
   refine nil (Run.slim [(0,v0),(3,u1),(4,u2),(7,(q1 10))] ⟨rfl,rfl,rfl,rfl,trivial⟩ ?_)
   exact hj2 (y3) _ _ ⟨u11,rfl,(h64.facts .nil).picks (.cons .z (.cons (.s (.s (.s .z))) (.cons (.s (.s (.s .z))) (.cons (.s .z) (.cons .z (.cons .z .nil))))))⟩ hF
  refine Run.skip (Run.slim [(0,v0),(3,u1),(4,u2),(7,(q1 10))] ⟨rfl,rfl,rfl,rfl,trivial⟩ ?_)
  exact hj2 (s1) _ _ ⟨u4,rfl,(h25.facts .nil).picks (.cons (.s (.s (.s .z))) (.cons (.s (.s .z)) (.cons (.s (.s .z)) (.cons .z (.cons (.s .z) (.cons .z .nil))))))⟩ hF
 refine Run.ite rfl hF (λ e7 hF=>?_) (λ e7 hF=>?_)
 ·refine Run.reg (gm rfl (gm rfl ?_))
  obtain ⟨y4,e8,hF⟩:=bindP_use hF
  have h65:=h6.front (.cons .z (.cons .z .nil))
  have h66:=St.unselfD (y1:Int).toNat (h65.pick (.s .z))
  have h67:=h66.front (.cons (.s .z) (.cons .z .nil))
  refine op (OpS.callO h67 Tryz.func140 rfl rfl rfl rfl (vs:=[v0,.int .i64 y1]) rfl (fragment_Assembler_drop_ok e8 (r_:=fragment_open.orep) (hr_:=rfl)) rfl .nil ?_)
  rintro _ w19 _ _ _ ⟨u12,rfl,rfl,rfl,rfl⟩ h68
  have h69:=h68
  simp only [ca,na] at h69
  refine nil (Run.slim [(0,v0),(3,u1),(4,u2)] ⟨rfl,rfl,rfl,trivial⟩ ?_)
  exact hj1 (y4) _ _ ⟨u12,rfl,(h69.facts .nil).picks (.cons .z (.cons (.s (.s .z)) (.cons (.s .z) (.cons .z .nil))))⟩ hF
 refine Run.skip (Run.slim [(0,v0),(3,u1),(4,u2)] ⟨rfl,rfl,rfl,trivial⟩ ?_)
 exact hj1 (a0) _ _ ⟨v0_0,rfl,(h6.facts .nil).picks (.cons .z (.cons (.s (.s .z)) (.cons (.s .z) (.cons .z .nil))))⟩ hF
set_option maxHeartbeats 8000000 in set_option maxRecDepth 20000 in
theorem fragment_Assembler_Accept_ok {fuel:Nat} {a0:fragment_Assembler} {a1:Packet_} {y:Whole_×Bool×Int×fragment_Assembler} (hF:fragment_Assembler_Accept fuel a0 a1=some y) {w:World} {v0 v0_0 v1:Value} :
  Spec Tryz.prog 64 [v0,v1].toArray w [(false,.val Packet_.rep v1 a1)] [(false,.box 245 (fragment_Assembler.repW v0_0) v0 a0),(false,.oval (oslice 267 6 (λ _=>fragment_open.orep)) v0_0 a0.open_)] (λ v Γr Ωr Ωo=>∃ u0 w0_0:Value,v=.tuple #[u0,.bool y.2.1,.int .i64 y.2.2.1]∧Γr=[(false,.val Whole_.rep u0 y.1)]∧Ωr=[]∧Ωo=[(false,.box 245 (fragment_Assembler.repW w0_0) v0 y.2.2.2),(false,(.oval (oslice 267 6 (λ _=>fragment_open.orep)) w0_0 y.2.2.2.open_))]):=by
 refine Spec.of (L:=[(0,v0),(1,v1)]) Tryz.func64 rfl ⟨rfl,rfl,trivial⟩ rfl (λ e h=>?_)
 unfold fragment_Assembler_Accept at hF
 refine sr (op (OpS.boxF h rfl rfl rfl (V.at .z) (λ u1 w1 h1=>?_)))
 refine op (OpS.alloc h1 ti155 Whole_.zr rfl rfl (λ u2 w2 h2=>?_))
 refine ga rfl (ga rfl (nil (Run.seq (Run.block (sr (op (OpS.loadB h2 (.s .z) PA.z Get.id ty139 rfl rfl rfl (λ u3 h3=>?_))))))))
 obtain ⟨y1,e1,hF⟩:=bindP_use hF
 refine op (OpS.callP h3 Tryz.func127 rfl rfl rfl rfl (vs:=[u3]) rfl (fragment_Valid_ok e1) (.cons (f:=false) (V.at .z) .nil) ?_)
 rintro _ w3 _ _ _ ⟨rfl,rfl,rfl,rfl⟩ h4
 have h5:=h4 rfl rfl
 simp only [ca,na] at h5
 refine op (OpS.not rfl rfl rfl ?_)
 refine ga rfl ?_
 obtain ⟨x1,e2,hF⟩:=letP_use hF
 refine RunL.nameb e2 ?_
 refine nil ?_
 refine Run.ite rfl hF (λ e3 hF=>?_) (λ e3 hF=>?_)
 ·refine sr (op (OpS.build (f:=true) (x':=Whole_.z) h5 pl155 ti155 Whole_.zr rfl rfl rfl .nil (λ u4 h6=>?_)))
  refine op (OpS.storeB (f':=true) h6 .z PA.z Put.id ty155 rfl rfl rfl (V.at .z) (.inl rfl) (λ w4 h7=>?_))
  refine ga rfl (ga rfl (nil ?_))
  obtain ⟨u5,hu1,h8⟩:=res_box h7 .z ty155
  refine Run.retP rfl (.cell rfl hu1 (.tmp rfl (.tmp rfl .nil))) ?_
  cases hF
  exact Post.mk' ⟨u5,v0_0,rfl,rfl,rfl,rfl⟩ (h8.picks (.cons (.s (.s .z)) (.cons (.s (.s .z)) .nil))) (.val (V.weak (V.at .z)) .nil)
 refine Run.seq ?_
 have h9:=h5.picks (.cons (.s .z) (.cons (.s .z) (.cons .z (.cons .z .nil))))
 refine Run.drawV (Ωs:=[(true,.box 155 Whole_.rep u2 Whole_.z),(false,.oval (oslice 267 6 (λ _=>fragment_open.orep)) v0_0 a0.open_)]) [.kr 19 (padd u1 0) [0],.kr 20 (.int .u8 a1.To) [0],.k 21 v0,.kr 22 v0 [1],.kr 23 (padd v0 0) [1],.kr 24 (.int .u8 a0.own) [1]] [[],[0],[],[2],[3],[4]] [[(false,.box 139 Packet_.rep u1 a1)],[(false,.box 245 (fragment_Assembler.repW v0_0) v0 a0)]] [0,1,2,3,4,5,6,7] Try_mixed rfl rfl rfl h9 (.cons ?_ (.cons ?_ (.cons ?_ (.cons ?_ (.cons ?_ (.cons ?_ .nil)))))) (λ q1 w hq1 h=>?_)
 ·intro q1 w Γx Ωx h
  refine OpS.fbox (o3:=0) h .z PA.z fa139_0 rfl rfl rfl rfl ?_
  exact du h
 ·intro q1 w Γx Ωx h
  refine OpS.loadBi h .z PA.a (Get.fld Packet_.f0) ty5 rfl rfl rfl ?_
  exact du h
 ·intro q1 w Γx Ωx h
  refine OpS.mv rfl rfl rfl ?_
  exact du h
 ·intro q1 w Γx Ωx h
  refine OpS.nchk h .z rfl rfl rfl ?_
  exact du h
 ·intro q1 w Γx Ωx h
  refine OpS.fbox (o3:=0) h .z PA.z fa245_0 rfl rfl rfl rfl ?_
  exact du h
 ·intro q1 w Γx Ωx h
  refine OpS.loadBi h .z PA.a (GetS.ok (GetS.iso _ (GetS.here GetS.id))) ty5 rfl rfl rfl ?_
  exact du h
 have h10:=h
 refine gb rfl (ga rfl ?_)
 obtain ⟨x2,e4,hF⟩:=letP_use hF
 refine RunL.nameb e4 ?_
 refine nil ?_
 refine Run.ite rfl hF (λ e5 hF=>?_) (λ e5 hF=>?_)
 ·refine sr (op (OpS.build (f:=true) (x':=Whole_.z) h10 pl155 ti155 Whole_.zr rfl rfl rfl .nil (λ u6 h11=>?_)))
  refine op (OpS.storeB (f':=true) h11 (.s (.s .z)) PA.z Put.id ty155 rfl rfl rfl (V.at .z) (.inl rfl) (λ w5 h12=>?_))
  refine ga rfl (ga rfl (nil ?_))
  obtain ⟨u7,hu2,h13⟩:=res_box h12 .z ty155
  refine Run.retP rfl (.cell rfl hu2 (.tmp rfl (.tmp rfl .nil))) ?_
  cases hF
  exact Post.mk' ⟨u7,v0_0,rfl,rfl,rfl,rfl⟩ (h13.picks (.cons (.s (.s .z)) (.cons (.s (.s .z)) .nil))) (.val (V.weak (V.at .z)) .nil)
 refine sr (op (OpS.fbox (o3:=2) h10 .z PA.z fa139_2 rfl rfl rfl rfl ?_))
 refine op (OpS.loadBb h10 .z PA.a (Get.fld Packet_.f2) ty4 rfl rfl rfl ?_)
 refine ga rfl (nil ?_)
 refine Run.ite rfl hF (λ e6 hF=>?_) (λ e6 hF=>?_)
 ·refine sr (gm rfl (op (OpS.loadB h10 .z PA.z Get.id ty139 rfl rfl rfl (λ u8 h14=>?_))))
  obtain ⟨y2,e7,hF⟩:=bindP_use hF
  have h15:=h14.front (.cons (.s .z) (.cons (.s (.s .z)) .nil))
  refine op (OpS.callO h15 Tryz.func138 rfl rfl rfl rfl (vs:=[v0,u8]) rfl (fragment_Assembler_begin_ok e7) rfl (.cons (f:=false) (V.at .z) .nil) ?_)
  rintro _ w6 _ _ _ ⟨u9,u10,rfl,rfl,rfl,rfl⟩ h16
  have h17:=h16
  simp only [ca,na] at h17
  refine gm rfl (op (OpS.ext rfl rfl rfl rfl ?_))
  refine op (OpS.ext rfl rfl rfl rfl ?_)
  refine op (OpS.alloc h17 ti155 Whole_.zr rfl rfl (λ u11 w7 h18=>?_))
  refine op (OpS.storeB (f':=true) h18 .z PA.z Put.id ty155 rfl rfl rfl (V.at .z) (.inl rfl) (λ w8 h19=>?_))
  refine ga rfl (nil (sr (op (OpS.loadB h19 .z PA.z Get.id ty155 rfl rfl rfl (λ u12 h20=>?_)))))
  refine gm rfl (op (OpS.storeB (f':=true) h20 (.s (.s (.s (.s .z)))) PA.z Put.id ty155 rfl rfl rfl (V.at .z) (.inl rfl) (λ w9 h21=>?_)))
  refine ga rfl (ga rfl (nil ?_))
  obtain ⟨u13,hu3,h22⟩:=res_box h21 .z ty155
  refine Run.retP rfl (.cell rfl hu3 (.tmp rfl (.tmp rfl .nil))) ?_
  cases hF
  exact Post.mk' ⟨u13,u10,rfl,rfl,rfl,rfl⟩ (h22.picks (.cons (.s (.s .z)) (.cons (.s (.s .z)) .nil))) (.val (V.weak (V.at .z)) .nil)
 refine Run.skip (Run.endBlock (sr (gm rfl (op (OpS.loadB h10 .z PA.z Get.id ty139 rfl rfl rfl (λ u14 h23=>?_))))))
 obtain ⟨y3,e8,hF⟩:=bindP_use hF
 have h24:=h23.front (.cons (.s .z) (.cons (.s (.s .z)) .nil))
 refine op (OpS.callO h24 Tryz.func139 rfl rfl rfl rfl (vs:=[v0,u14]) rfl (fragment_Assembler_find_ok e8) rfl (.cons (f:=false) (V.at .z) .nil) ?_)
 rintro _ w10 _ _ _ ⟨rfl,rfl,rfl,rfl⟩ h25
 have h26:=h25
 simp only [ca,na] at h26
 refine ga rfl (nil (Run.seq (sr (gm rfl (gb rfl (nil ?_))))))
 refine Run.ite rfl hF (λ e9 hF=>?_) (λ e9 hF=>?_)
 ·refine sr (op (OpS.build (f:=true) (x':=Whole_.z) h26 pl155 ti155 Whole_.zr rfl rfl rfl .nil (λ u15 h27=>?_)))
  refine op (OpS.storeB (f':=true) h27 (.s (.s (.s .z))) PA.z Put.id ty155 rfl rfl rfl (V.at .z) (.inl rfl) (λ w11 h28=>?_))
  refine ga rfl (ga rfl (nil ?_))
  obtain ⟨u16,hu4,h29⟩:=res_box h28 .z ty155
  refine Run.retP rfl (.cell rfl hu4 (.tmp rfl (.tmp rfl .nil))) ?_
  cases hF
  exact Post.mk' ⟨u16,v0_0,rfl,rfl,rfl,rfl⟩ (h29.picks (.cons (.s .z) (.cons (.s .z) .nil))) (.val (V.weak (V.at .z)) .nil)
 refine Run.skip (sr (gm rfl (op (OpS.nchk h26 .z rfl rfl rfl ?_))))
 refine op (OpS.fbox (o3:=1) h26 .z PA.z fa245_1 rfl rfl rfl rfl ?_)
 refine op (OpS.loadR h26 .z PA.a (GetS.ok (GetS.iso _ (GetS.there (GetS.here GetS.id)))) ty243 rfl rfl rfl rfl rfl ?_)
 refine gm rfl ?_
 obtain ⟨x3,e10,hF⟩:=bindP_use hF
 refine op (OpS.iownD h26 (.s .z) Tryz.underlying243 sz267 rfl rfl rfl rfl e10 ?_)
 refine ga rfl (nil (sr (op (OpS.fbox (o3:=7) h26 (.s (.s .z)) PA.z fa139_7 rfl rfl rfl rfl ?_))))
 refine op (OpS.loadB h26 (.s (.s .z)) PA.a (Get.fld Packet_.f7) ty24 rfl rfl rfl (λ u17 h30=>?_))
 refine op (OpS.len h30 Tryz.underlying24 rfl rfl rfl (V.at .z) ?_)
 refine ga rfl (nil (Run.slim [(11,.int .i64 (a1.Data.length:Int)),(10,(padd (sp v0_0) ((y3:Int).toNat*6))),(9,.int .i64 y3),(4,u2),(3,u1),(0,v0)] ⟨rfl,rfl,rfl,rfl,rfl,rfl,trivial⟩ ?_))
 refine Run.seq (Run.block (Run.seq ?_))
 refine Run.join (σ:=Bool) (λ s_ L_ w_=>L_=[(0,v0),(3,u1),(4,u2),(9,.int .i64 y3),(10,(padd (sp v0_0) ((y3:Int).toNat*6))),(11,.int .i64 (a1.Data.length:Int)),(53,.bool s_)]∧St e w_ [] [(false,.box 245 (fragment_Assembler.repW v0_0) v0 a0),(false,.box 139 Packet_.rep u1 a1),(true,.box 155 Whole_.rep u2 Whole_.z),(false,.oval (oslice 267 6 (λ _=>fragment_open.orep)) v0_0 a0.open_)]) hF (λ s1 _ w12 hI hF=>?_) (λ j1 hj1 hF=>?_)
 ·obtain ⟨rfl,h31⟩:=hI
  refine Run.ite rfl hF (λ e11 hF=>?_) (λ e11 hF=>?_)
  ·refine sr (gm rfl (gm rfl ?_))
   obtain ⟨y4,e12,hF⟩:=bindP_use hF
   have h32:=h31.front (.cons .z (.cons (.s (.s .z)) .nil))
   have h33:=St.unselfD (y3:Int).toNat (h32.pick (.s .z))
   have h34:=h33.front (.cons (.s .z) (.cons .z .nil))
   refine op (OpS.callO h34 Tryz.func140 rfl rfl rfl rfl (vs:=[v0,.int .i64 y3]) rfl (fragment_Assembler_drop_ok e12 (r_:=fragment_open.orep) (hr_:=rfl)) rfl .nil ?_)
   rintro _ w13 _ _ _ ⟨u18,rfl,rfl,rfl,rfl⟩ h35
   have h36:=h35
   simp only [ca,na] at h36
   refine nil (sr (op (OpS.build (f:=true) (x':=Whole_.z) h36 pl155 ti155 Whole_.zr rfl rfl rfl .nil (λ u19 h37=>?_))))
   refine op (OpS.storeB (f':=true) h37 (.s (.s (.s .z))) PA.z Put.id ty155 rfl rfl rfl (V.at .z) (.inl rfl) (λ w14 h38=>?_))
   refine ga rfl (ga rfl (nil ?_))
   obtain ⟨u20,hu5,h39⟩:=res_box h38 .z ty155
   refine Run.retP rfl (.cell rfl hu5 (.tmp rfl (.tmp rfl .nil))) ?_
   cases hF
   exact Post.mk' ⟨u20,u18,rfl,rfl,rfl,rfl⟩ (h39.picks (.cons (.s .z) (.cons (.s .z) .nil))) (.val (V.weak (V.at .z)) .nil)
  refine sr (gm rfl (op (OpS.nchkO h31 (.s (.s (.s .z))) (idx_ne e10) PA.a rfl rfl rfl ?_)))
  refine op (OpS.fownD h31 (.s (.s (.s .z))) (idx_ne e10) PA.a fa267_0 rfl rfl rfl ?_)
  refine op (OpS.fownD h31 (.s (.s (.s .z))) (idx_ne e10) PA.a fa155_3 rfl rfl rfl ?_)
  refine op (OpS.loadS (fr:=Rep.hollow) h31 (.s (.s (.s .z))) fragment_open.wk rfl (idx_ne e10) PA.a (Get.comp (Get.arr e10) (GetS.ok (GetS.iso _ (GetS.here (GetS.iso _ (GetS.there (GetS.there (GetS.there (GetS.here GetS.id))))))))) (Ty.like ty24 (by rfl) (by rfl)) rfl rfl rfl (λ u21 h40=>?_))
  refine op (OpS.lenH h40 Tryz.underlying24 rfl rfl rfl (V.at .z) ?_)
  refine gm rfl (gb rfl (gb rfl (ga rfl ?_)))
  obtain ⟨x4,e13,hF⟩:=letP_use hF
  refine RunL.nameb e13 ?_
  refine nil ?_
  refine Run.ite rfl hF (λ e14 hF=>?_) (λ e14 hF=>?_)
  ·refine sr (gm rfl (gm rfl ?_))
   obtain ⟨y5,e15,hF⟩:=bindP_use hF
   have h41:=h40.front (.cons .z (.cons (.s (.s .z)) .nil))
   have h42:=St.unselfD (y3:Int).toNat (h41.pick (.s .z))
   have h43:=h42.front (.cons (.s .z) (.cons .z .nil))
   refine op (OpS.callO h43 Tryz.func140 rfl rfl rfl rfl (vs:=[v0,.int .i64 y3]) rfl (fragment_Assembler_drop_ok e15 (r_:=fragment_open.orep) (hr_:=rfl)) rfl .nil ?_)
   rintro _ w15 _ _ _ ⟨u22,rfl,rfl,rfl,rfl⟩ h44
   have h45:=h44
   simp only [ca,na] at h45
   refine nil (sr (op (OpS.build (f:=true) (x':=Whole_.z) h45 pl155 ti155 Whole_.zr rfl rfl rfl .nil (λ u23 h46=>?_))))
   refine op (OpS.storeB (f':=true) h46 (.s (.s (.s .z))) PA.z Put.id ty155 rfl rfl rfl (V.at .z) (.inl rfl) (λ w16 h47=>?_))
   refine ga rfl (ga rfl (nil ?_))
   obtain ⟨u24,hu6,h48⟩:=res_box h47 .z ty155
   refine Run.retP rfl (.cell rfl hu6 (.tmp rfl (.tmp rfl .nil))) ?_
   cases hF
   exact Post.mk' ⟨u24,u22,rfl,rfl,rfl,rfl⟩ (h48.picks (.cons (.s .z) (.cons (.s .z) .nil))) (.val (V.weak (V.at .z)) .nil)
  refine Run.skip (Run.endBlock (Run.seq ?_))
  have h49:=h40.picks (.cons (.s .z) (.cons (.s (.s .z)) (.cons .z (.cons .z .nil))))
  obtain ⟨x5,e16,hF⟩:=bindP_use hF
  obtain ⟨d1,e17,hF⟩:=letP_use hF
  refine Run.drawV (Ωs:=[(false,.box 245 (fragment_Assembler.repW v0_0) v0 a0),(true,.box 155 Whole_.rep u2 Whole_.z)]) [.k 102 (padd (sp v0_0) ((y3:Int).toNat*6)),.k 103 (padd (sp v0_0) ((y3:Int).toNat*6)),.k 104 (padd (sp v0_0) ((y3:Int).toNat*6)),⟨some 105,some ((padd (sp v0_0) ((y3:Int).toNat*6))),λ _=>[],λ ds_ u_=>[],[],[(1,[6,5,4,3])],none⟩,⟨some 106,some ((padd (sp v0_0) ((y3:Int).toNat*6+0))),λ _=>[],λ ds_ u_=>[],[],[(1,[6,5,4])],none⟩,⟨some 107,some ((padd (sp v0_0) ((y3:Int).toNat*6+0+3))),λ _=>[],λ ds_ u_=>[],[],[(1,[6,5])],none⟩,⟨some 108,none,λ u_=>[],λ ds_ u_=>[(false,.oval (oslice 267 6 (at' (λ _=>fragment_open.orep) (y3).toNat (fragment_open.orepW (raw u_)))) v0_0 a0.open_),(false,.oval (oslice 5 1 (λ _=>(sh (Rep.int .u8)))) u_ x3.whole.Data)],[1],[],none⟩,.kr 109 (padd u1 7) [0],.fr 110 (λ u_=>[(false,.val (Rep.slice (Rep.int .u8)) u_ a1.Data)]) [0],⟨some 111,none,λ u_=>[],λ ds_ u_=>[(false,.oval (oslice 267 6 (at' (λ _=>fragment_open.orep) (y3).toNat (fragment_open.orepW (raw (nth ds_ 0))))) v0_0 a0.open_),(false,.oval (oslice 5 1 (λ _=>(sh (Rep.int .u8)))) u_ x5)],[8],[],none⟩,.kr 112 (padd u1 4) [0],.kr 113 (.int .i64 a1.Sequence) [0],⟨some 114,some ((padd (sp v0_0) ((y3:Int).toNat*6))),λ _=>[],λ ds_ u_=>[],[],[(11,[15,14,13,12])],none⟩,⟨some 115,some ((padd (sp v0_0) ((y3:Int).toNat*6+0))),λ _=>[],λ ds_ u_=>[],[],[(11,[15,14,13])],none⟩,⟨some 116,some ((padd (sp v0_0) ((y3:Int).toNat*6+0+3))),λ _=>[],λ ds_ u_=>[],[],[(11,[15,14])],none⟩,⟨none,some undef,λ _=>[],λ ds_ u_=>[(false,.oval (oslice 267 6 (λ _=>fragment_open.orep)) v0_0 d1)],[11],[],none⟩] [[],[],[],[2],[3],[4],[5],[],[7],[6,8],[],[10],[0],[12],[13],[14,9]] [[(false,.box 139 Packet_.rep u1 a1)],[(false,.oval (oslice 267 6 (λ _=>fragment_open.orep)) v0_0 a0.open_)]] [0,2,3,4,5,6,7,9,10,12,13,14,15,16,17] Try_mixed rfl rfl rfl h49 (.cons ?_ (.cons ?_ (.cons ?_ (.cons ?_ (.cons ?_ (.cons ?_ (.cons ?_ (.cons ?_ (.cons ?_ (.cons ?_ (.cons ?_ (.cons ?_ (.cons ?_ (.cons ?_ (.cons ?_ (.cons ?_ .nil)))))))))))))))) (λ q2 w hq2 h=>?_)
  ·intro q2 w Γx Ωx h
   refine OpS.mv rfl rfl rfl ?_
   exact du h
  ·intro q2 w Γx Ωx h
   refine OpS.mv rfl rfl rfl ?_
   exact du h
  ·intro q2 w Γx Ωx h
   refine OpS.mv rfl rfl rfl ?_
   exact du h
  ·intro q2 w Γx Ωx h
   refine OpS.nchkO h .z (idx_ne e10) PA.a rfl rfl rfl ?_
   exact du h
  ·intro q2 w Γx Ωx h
   refine OpS.fownD h .z (idx_ne e10) PA.a fa267_0 rfl rfl rfl ?_
   exact du h
  ·intro q2 w Γx Ωx h
   refine OpS.fownD h .z (idx_ne e10) PA.a fa155_3 rfl rfl rfl ?_
   exact du h
  ·intro q2 w Γx Ωx h
   refine OpS.openO (F':=λ v_=>at' (λ _=>fragment_open.orep) (y3).toNat (fragment_open.orepW (raw v_))) (hn:=λ _=>rfl) (hn':=λ _=>at_hn rfl rfl) h .z (idx_ne e10) PA.a (λ v_=>Len.comp (Len.arrOpen e10) (fragment_open.lenO v_)) rfl ty24 rfl rfl rfl rfl (λ u h55=>?_)
   exact ⟨u,rfl,trivial,h55⟩
  ·intro q2 w Γx Ωx h
   refine OpS.fbox (o3:=7) h .z PA.z fa139_7 rfl rfl rfl rfl ?_
   exact du h
  ·intro q2 w Γx Ωx h
   refine OpS.loadB h .z PA.a (Get.fld Packet_.f7) ty24 rfl rfl rfl (λ u h56=>?_)
   exact ⟨u,rfl,trivial,h56⟩
  ·intro q2 w Γx Ωx h
   refine OpS.appD (fr:=(Rep.int .u8)) (f':=false) h (.s .z) Tryz.underlying24 ti5 rfl rfl rfl rfl rfl rfl rfl (V.at .z) (.inr rfl) e16 (λ u w19 h57=>?_)
   have h58:=h57.front (.cons (.s .z) (.cons .z (.cons .z (.cons .z .nil))))
   exact ⟨u,rfl,trivial,h58⟩
  ·intro q2 w Γx Ωx h
   refine OpS.fbox (o3:=4) h .z PA.z fa139_4 rfl rfl rfl rfl ?_
   exact du h
  ·intro q2 w Γx Ωx h
   refine OpS.loadBi h .z PA.a (Get.fld Packet_.f4) ty3 rfl rfl rfl ?_
   exact du h
  ·intro q2 w Γx Ωx h
   refine OpS.nchkO h .z (idx_ne e10) PA.a rfl rfl rfl ?_
   exact du h
  ·intro q2 w Γx Ωx h
   refine OpS.fownD h .z (idx_ne e10) PA.a fa267_0 rfl rfl rfl ?_
   exact du h
  ·intro q2 w Γx Ωx h
   refine OpS.fownD h .z (idx_ne e10) PA.a fa155_3 rfl rfl rfl ?_
   exact du h
  ·intro q2 w Γx Ωx h
   refine OpS.storePO (F:=(at' (λ _=>fragment_open.orep) (y3).toNat (fragment_open.orepW (raw (q2 6))))) (F2:=λ _=>fragment_open.orep) (hn:=at_hn rfl rfl) (hn2:=λ _=>rfl) h .z .z (idx_ne e10) PA.a (Len.comp (Len.arrShut e10) (fragment_open.lenC (q2 6))) ty24 rfl rfl rfl rfl (.inr rfl) (λ w20 h59=>?_)
   have h60:=St.termD (l':=d1) h59 e17
   exact ⟨undef,trivial,trivial,h60⟩
  have h61:=h
  obtain ⟨x6,e18,hF⟩:=bindP_use hF
  refine op (OpS.nchkO h61 (.s .z) (idx_ne e18) PA.a rfl rfl rfl ?_)
  refine op (OpS.fownD h61 (.s .z) (idx_ne e18) PA.a fa267_2 rfl rfl rfl ?_)
  obtain ⟨d2,e19,hF⟩:=letP_use hF
  refine op (OpS.storeOD (F2:=λ _=>fragment_open.orep) (f':=true) (hn:=λ _=>rfl) (hn2:=λ _=>rfl) h61 (.s .z) (idx_ne e18) PA.a (Len.comp (Len.arrSame e18) fragment_open.l2) ty3 rfl rfl rfl V.int (.inr rfl) (λ w21 h62=>?_))
  have h63:=St.termD (l':=d2) h62 e19
  refine nil (Run.seq (sr (op (OpS.fbox (o3:=3) h63 (.s .z) PA.z fa139_3 rfl rfl rfl rfl ?_))))
  refine op (OpS.loadBb h63 (.s .z) PA.a (Get.fld Packet_.f3) ty4 rfl rfl rfl ?_)
  refine op (OpS.not rfl rfl rfl ?_)
  refine nil (Run.slim [(121,.bool (!a1.End)),(0,v0),(4,u2),(9,.int .i64 y3),(10,(padd (sp v0_0) ((y3:Int).toNat*6)))] ⟨rfl,rfl,rfl,rfl,rfl,trivial⟩ ?_)
  refine Run.ite rfl hF (λ e20 hF=>?_) (λ e20 hF=>?_)
  ·refine sr (op (OpS.build (f:=true) (x':=Whole_.z) h63 pl155 ti155 Whole_.zr rfl rfl rfl .nil (λ u25 h64=>?_)))
   refine op (OpS.storeB (f':=true) h64 (.s (.s (.s .z))) PA.z Put.id ty155 rfl rfl rfl (V.at .z) (.inl rfl) (λ w22 h65=>?_))
   refine ga rfl (ga rfl (nil ?_))
   obtain ⟨u26,hu7,h66⟩:=res_box h65 .z ty155
   have h67:=St.boxJ (r':=(fragment_Assembler.repW v0_0)) (x':={ a0 with open_:=d2 }) (h66.pick (.s (.s (.s .z)))) (λ _ _ hs_=>(Jn.iso _ (Jn.prod Jn.refl (Jn.prod Jn.same Jn.refl))))
   refine Run.retP rfl (.cell rfl hu7 (.tmp rfl (.tmp rfl .nil))) ?_
   cases hF
   exact Post.mk' ⟨u26,v0_0,rfl,rfl,rfl,rfl⟩ (h67.picks (.cons .z (.cons (.s .z) .nil))) (.val (V.weak (V.at .z)) .nil)
  refine Run.skip (sr (gm rfl ?_))
  obtain ⟨x7,e21,hF⟩:=bindP_use hF
  refine op (OpS.nchkO h63 .z (idx_ne e21) PA.a rfl rfl rfl ?_)
  refine op (OpS.fownD h63 .z (idx_ne e21) PA.a fa267_0 rfl rfl rfl ?_)
  obtain ⟨u27,h68⟩:=St.openD (F':=λ v_=>at' (λ _=>fragment_open.orep) (y3).toNat (fragment_open.orepW (raw v_))) (hn:=λ _=>rfl) (hn':=λ _=>at_hn rfl rfl) h63 .z (idx_ne e21) (λ v_=>Len.comp (Len.arrOpen e21) (fragment_open.lenO v_)) rfl
  refine op (OpS.loadA (s:=fragment_open.hrepW (Rep.raw u27)) (fr:=(Rep.iso (λ s:Whole_=>(s.From,s.Owner,s.Tag,s.Data,())) (Rep.prod (Rep.int .u8) (Rep.prod Rep.bool (Rep.prod (Rep.int .i64) (Rep.prod (Rep.raw (α:=List Int) u27) Rep.unit)))))) h68 .z (at_hn rfl rfl) (fragment_open.wkW Wk.raw) e21 PA.a (GetS.ok (GetS.iso _ (GetS.here GetS.id))) (Ty.like ty155 (by rfl) (by rfl)) rfl rfl rfl (λ u28 h69=>?_))
  refine op (OpS.alloc h69 ti155 Whole_.zr rfl rfl (λ u29 w23 h70=>?_))
  refine op (OpS.storeC (f':=true) (fr:=(Rep.iso (λ s:Whole_=>(s.From,s.Owner,s.Tag,s.Data,())) (Rep.prod (Rep.int .u8) (Rep.prod Rep.bool (Rep.prod (Rep.int .i64) (Rep.prod (Rep.raw (α:=List Int) u27) Rep.unit)))))) (r':=(Rep.iso (λ s:Whole_=>(s.From,s.Owner,s.Tag,s.Data,())) (Rep.prod (Rep.int .u8) (Rep.prod Rep.bool (Rep.prod (Rep.int .i64) (Rep.prod (Rep.raw (α:=List Int) u27) Rep.unit)))))) (x':=x7.whole) h70 .z PA.z (Chg.id (by rfl)) (Ty.like ty155 (by rfl) (by rfl)) rfl rfl rfl (V.pure (V.at .z) (Pure.iso (Pure.prod Pure.int (Pure.prod Pure.bool (Pure.prod Pure.int (Pure.prod Pure.raw Pure.unit)))))) (.inl rfl) (λ w24 h71=>?_))
  refine nil (sr (gm rfl (gm rfl ?_)))
  have h72:=St.boxJ (r':=(fragment_Assembler.repW v0_0)) (x':={ a0 with open_:=d2 }) (h71.pick (.s (.s (.s (.s .z))))) (λ _ _ hs_=>(Jn.iso _ (Jn.prod Jn.refl (Jn.prod Jn.same Jn.refl))))
  obtain ⟨y6,e22,hF⟩:=bindP_use hF
  have h73:=h72.front (.cons .z (.cons (.s .z) .nil))
  refine op (OpS.callO h73 Tryz.func140 rfl rfl rfl rfl (vs:=[v0,.int .i64 y3]) rfl (fragment_Assembler_drop_ok e22 (r_:=fragment_open.orepW (raw u27)) (hr_:=rfl)) rfl .nil ?_)
  rintro _ w25 _ _ _ ⟨u30,rfl,rfl,rfl,rfl⟩ h74
  have h75:=h74
  simp only [ca,na] at h75
  refine nil (sr (op (OpS.loadB (fr:=(Rep.iso (λ s:Whole_=>(s.From,s.Owner,s.Tag,s.Data,())) (Rep.prod (Rep.int .u8) (Rep.prod Rep.bool (Rep.prod (Rep.int .i64) (Rep.prod (Rep.raw (α:=List Int) u27) Rep.unit)))))) h75 (.s (.s .z)) PA.z (GetS.ok GetS.id) (Ty.like ty155 (by rfl) (by rfl)) rfl rfl rfl (λ u31 h76=>?_))))
  refine op (OpS.storeC (f':=true) (fr:=(Rep.iso (λ s:Whole_=>(s.From,s.Owner,s.Tag,s.Data,())) (Rep.prod (Rep.int .u8) (Rep.prod Rep.bool (Rep.prod (Rep.int .i64) (Rep.prod (Rep.raw (α:=List Int) u27) Rep.unit)))))) (r':=(Rep.iso (λ s:Whole_=>(s.From,s.Owner,s.Tag,s.Data,())) (Rep.prod (Rep.int .u8) (Rep.prod Rep.bool (Rep.prod (Rep.int .i64) (Rep.prod (Rep.raw (α:=List Int) u27) Rep.unit)))))) (x':=x7.whole) h76 (.s (.s (.s (.s (.s .z))))) PA.z (Chg.id (by rfl)) (Ty.like ty155 (by rfl) (by rfl)) rfl rfl rfl (V.at .z) (.inl rfl) (λ w26 h77=>?_))
  refine ga rfl (ga rfl (nil ?_))
  obtain ⟨u32,hu8,h78⟩:=res_box h77 .z (Ty.like ty155 (by rfl) (by rfl))
  have h79:=(h78.pick (.s (.s (.s (.s .z))))).freezeD
  have h80:=h79.pick .z
  have h81:=h80.weak
  have h82:=St.boxJ (r':=Whole_.rep) (x':={ x7.whole with Data:=x7.whole.Data }) h81 (λ _ _ hs_=>(Jn.iso _ (Jn.prod Jn.refl (Jn.prod Jn.refl (Jn.prod Jn.refl (Jn.prod (Jn.raw ((V.at .z) _ _ hs_) rfl) Jn.refl))))))
  have h83:=h82.pick (.s (.s (.s .z)))
  have h84:=h83.weak
  have h85:=St.boxJ (r':=Whole_.rep) (x':={ x7.whole with Data:=x7.whole.Data }) h84 (λ _ _ hs_=>(Jn.iso _ (Jn.prod Jn.refl (Jn.prod Jn.refl (Jn.prod Jn.refl (Jn.prod (Jn.raw ((V.at .z) _ _ hs_) rfl) Jn.refl))))))
  have h86:=St.addV (f:=false) (r:=Whole_.rep) (x:={ x7.whole with Data:=x7.whole.Data }) h85 (V.jn (r:=(Rep.iso (λ s:Whole_=>(s.From,s.Owner,s.Tag,s.Data,())) (Rep.prod (Rep.int .u8) (Rep.prod Rep.bool (Rep.prod (Rep.int .i64) (Rep.prod (Rep.raw (α:=List Int) u27) Rep.unit)))))) (x:=x7.whole) (V.weak (V.at (.s .z))) rfl (λ _ _ hs_=>(Jn.iso _ (Jn.prod Jn.refl (Jn.prod Jn.refl (Jn.prod Jn.refl (Jn.prod (Jn.raw ((V.at .z) _ _ hs_) rfl) Jn.refl)))))))
  refine Run.retP rfl (.cell rfl hu8 (.tmp rfl (.tmp rfl .nil))) ?_
  cases hF
  exact Post.mk' ⟨u32,u30,rfl,rfl,rfl,rfl⟩ (h86.picks (.cons (.s (.s .z)) (.cons (.s (.s .z)) .nil))) (.val (V.at .z) .nil)
 have h87:=h30.picks (.cons (.s .z) (.cons (.s .z) (.cons .z (.cons .z .nil))))
 obtain ⟨x8,e23,hF⟩:=letP_use hF
 refine iteP_use hF (λ e24 hF=>?_) (λ e24 hF=>?_)
 ·have hG:=hF
  subst e24
  have hF:=hG
  refine Run.drawV (Ωs:=[(false,.box 245 (fragment_Assembler.repW v0_0) v0 a0),(true,.box 155 Whole_.rep u2 Whole_.z)]) [.kr 54 (padd u1 4) [1],.kr 55 (.int .i64 a1.Sequence) [1],.k 56 (padd (sp v0_0) ((y3:Int).toNat*6)),.kr 57 (padd (sp v0_0) ((y3:Int).toNat*6)) [0],.kr 58 (padd (sp v0_0) ((y3:Int).toNat*6+5)) [0],.kr 59 (.int .i64 x3.last) [0],.k 60 (.int .i64 (IntKind.i64.wrap (x3.last+1))),.k 61 (.int .i64 (Int.tmod (IntKind.i64.wrap (x3.last+1)) 4)),.k 62 (.bool (a1.Sequence != (Int.tmod (IntKind.i64.wrap (x3.last+1)) 4))),.k 63 (.bool true),.k 64 undef,.k 65 undef,.k 66 undef,.k 67 undef,.k 68 undef,.k 69 undef,.k 70 (.bool true),.k 71 (.bool true),.k 72 undef,.k 73 undef,.k 74 undef,.k 75 undef,.k 76 undef] [[],[0],[],[2],[3],[4],[5],[6],[1,7],[8],[9],[9],[9],[9],[9],[9],[9,15],[16],[17],[17],[17],[17],[17]] [[(false,.oval (oslice 267 6 (λ _=>fragment_open.orep)) v0_0 a0.open_)],[(false,.box 139 Packet_.rep u1 a1)]] [0,1,2,3,4,5,6,7,8,9,10,11,12,13,14,15,16,17,18,19,20,21,22,23,24] Try_mixed rfl rfl rfl h87 (.cons ?_ (.cons ?_ (.cons ?_ (.cons ?_ (.cons ?_ (.cons ?_ (.cons ?_ (.cons ?_ (.cons ?_ (.cons ?_ (.cons (dp λ _=>rfl) (.cons (dp λ _=>rfl) (.cons (dp λ _=>rfl) (.cons (dp λ _=>rfl) (.cons (dp λ _=>rfl) (.cons (dp λ _=>rfl) (.cons ?_ (.cons ?_ (.cons (dp λ _=>rfl) (.cons (dp λ _=>rfl) (.cons (dp λ _=>rfl) (.cons (dp λ _=>rfl) (.cons (dp λ _=>rfl) .nil))))))))))))))))))))))) (λ q3 w hq3 h=>?_)
  ·intro q3 w Γx Ωx h
   refine OpS.fbox (o3:=4) h .z PA.z fa139_4 rfl rfl rfl rfl ?_
   exact du h
  ·intro q3 w Γx Ωx h
   refine OpS.loadBi h .z PA.a (Get.fld Packet_.f4) ty3 rfl rfl rfl ?_
   exact du h
  ·intro q3 w Γx Ωx h
   refine OpS.mv rfl rfl rfl ?_
   exact du h
  ·intro q3 w Γx Ωx h
   refine OpS.nchkO h .z (idx_ne e10) PA.a rfl rfl rfl ?_
   exact du h
  ·intro q3 w Γx Ωx h
   refine OpS.fownD h .z (idx_ne e10) PA.a fa267_2 rfl rfl rfl ?_
   exact du h
  ·intro q3 w Γx Ωx h
   refine OpS.loadSi h .z fragment_open.wk rfl (idx_ne e10) PA.a (Get.comp (Get.arr e10) (GetS.ok (GetS.iso _ (GetS.there (GetS.there (GetS.here GetS.id)))))) ty3 rfl rfl rfl ?_
   exact du h
  ·intro q3 w Γx Ωx h
   refine OpS.bin rfl rfl rfl rfl rfl ?_
   exact du h
  ·intro q3 w Γx Ωx h
   refine OpS.rem rfl rfl rfl rfl (by decide) ?_
   exact du h
  ·intro q3 w Γx Ωx h
   refine OpS.bin rfl rfl rfl rfl rfl ?_
   exact du h
  ·intro q3 w Γx Ωx h
   refine OpS.mv rfl rfl rfl ?_
   exact ⟨undef,(congrArg (λ z_=>some (Value.bool z_)) e23),trivial,h⟩
  ·intro q3 w Γx Ωx h
   refine OpS.pick rfl rfl rfl rfl ?_
   exact du h
  ·intro q3 w Γx Ωx h
   refine OpS.mv rfl rfl rfl ?_
   exact du h
  have h88:=h
  refine gp rfl (gp rfl (gp rfl (gp rfl (gp rfl (gp rfl (gk rfl (ga rfl (nil (Run.slim [(0,v0),(3,u1),(4,u2),(9,.int .i64 y3),(10,(padd (sp v0_0) ((y3:Int).toNat*6))),(11,.int .i64 (a1.Data.length:Int)),(53,.bool true)] ⟨rfl,rfl,rfl,rfl,rfl,rfl,rfl,trivial⟩ ?_)))))))))
  exact hj1 (true) _ _ ⟨rfl,(h88.facts .nil).picks (.cons (.s (.s .z)) (.cons (.s .z) (.cons (.s .z) (.cons .z .nil))))⟩ hF
 have hG:=hF
 subst e24
 have hF:=hG
 obtain ⟨x9,e25,hF⟩:=letP_use hF
 refine iteP_use hF (λ e26 hF=>?_) (λ e26 hF=>?_)
 ·have hG:=hF
  subst e26
  have hF:=hG
  refine Run.drawV (Ωs:=[(false,.box 245 (fragment_Assembler.repW v0_0) v0 a0),(true,.box 155 Whole_.rep u2 Whole_.z)]) [.kr 54 (padd u1 4) [1],.kr 55 (.int .i64 a1.Sequence) [1],.k 56 (padd (sp v0_0) ((y3:Int).toNat*6)),.kr 57 (padd (sp v0_0) ((y3:Int).toNat*6)) [0],.kr 58 (padd (sp v0_0) ((y3:Int).toNat*6+5)) [0],.kr 59 (.int .i64 x3.last) [0],.k 60 (.int .i64 (IntKind.i64.wrap (x3.last+1))),.k 61 (.int .i64 (Int.tmod (IntKind.i64.wrap (x3.last+1)) 4)),.k 62 (.bool (a1.Sequence != (Int.tmod (IntKind.i64.wrap (x3.last+1)) 4))),.k 63 (.bool false),.k 64 (.int .i64 (a1.Data.length:Int)),.k 65 (padd (sp v0_0) ((y3:Int).toNat*6)),.kr 66 (padd (sp v0_0) ((y3:Int).toNat*6)) [0],.kr 67 (padd (sp v0_0) ((y3:Int).toNat*6+4)) [0],.kr 68 (.int .i64 x3.size) [0],.k 69 (.bool (decide ((a1.Data.length:Int)>x3.size))),.k 70 (.bool (decide ((a1.Data.length:Int)>x3.size))),.k 71 (.bool true),.k 72 undef,.k 73 undef,.k 74 undef,.k 75 undef,.k 76 undef] [[],[0],[],[2],[3],[4],[5],[6],[1,7],[8],[9],[9],[11,9],[12,9],[13,9],[10,14,9],[9,15],[16],[17],[17],[17],[17],[17]] [[(false,.oval (oslice 267 6 (λ _=>fragment_open.orep)) v0_0 a0.open_)],[(false,.box 139 Packet_.rep u1 a1)]] [0,1,2,3,4,5,6,7,8,9,10,11,12,13,14,15,16,17,18,19,20,21,22,23,24] Try_mixed rfl rfl rfl h87 (.cons ?_ (.cons ?_ (.cons ?_ (.cons ?_ (.cons ?_ (.cons ?_ (.cons ?_ (.cons ?_ (.cons ?_ (.cons ?_ (.cons ?_ (.cons ?_ (.cons ?_ (.cons ?_ (.cons ?_ (.cons ?_ (.cons ?_ (.cons ?_ (.cons (dp λ _=>rfl) (.cons (dp λ _=>rfl) (.cons (dp λ _=>rfl) (.cons (dp λ _=>rfl) (.cons (dp λ _=>rfl) .nil))))))))))))))))))))))) (λ q3 w hq4 h=>?_)
  ·intro q3 w Γx Ωx h
   refine OpS.fbox (o3:=4) h .z PA.z fa139_4 rfl rfl rfl rfl ?_
   exact du h
  ·intro q3 w Γx Ωx h
   refine OpS.loadBi h .z PA.a (Get.fld Packet_.f4) ty3 rfl rfl rfl ?_
   exact du h
  ·intro q3 w Γx Ωx h
   refine OpS.mv rfl rfl rfl ?_
   exact du h
  ·intro q3 w Γx Ωx h
   refine OpS.nchkO h .z (idx_ne e10) PA.a rfl rfl rfl ?_
   exact du h
  ·intro q3 w Γx Ωx h
   refine OpS.fownD h .z (idx_ne e10) PA.a fa267_2 rfl rfl rfl ?_
   exact du h
  ·intro q3 w Γx Ωx h
   refine OpS.loadSi h .z fragment_open.wk rfl (idx_ne e10) PA.a (Get.comp (Get.arr e10) (GetS.ok (GetS.iso _ (GetS.there (GetS.there (GetS.here GetS.id)))))) ty3 rfl rfl rfl ?_
   exact du h
  ·intro q3 w Γx Ωx h
   refine OpS.bin rfl rfl rfl rfl rfl ?_
   exact du h
  ·intro q3 w Γx Ωx h
   refine OpS.rem rfl rfl rfl rfl (by decide) ?_
   exact du h
  ·intro q3 w Γx Ωx h
   refine OpS.bin rfl rfl rfl rfl rfl ?_
   exact du h
  ·intro q3 w Γx Ωx h
   refine OpS.mv rfl rfl rfl ?_
   exact ⟨undef,(congrArg (λ z_=>some (Value.bool z_)) e23),trivial,h⟩
  ·intro q3 w Γx Ωx h
   refine OpS.mv rfl rfl rfl ?_
   exact du h
  ·intro q3 w Γx Ωx h
   refine OpS.mv rfl rfl rfl ?_
   exact du h
  ·intro q3 w Γx Ωx h
   refine OpS.nchkO h .z (idx_ne e10) PA.a rfl rfl rfl ?_
   exact du h
  ·intro q3 w Γx Ωx h
   refine OpS.fownD h .z (idx_ne e10) PA.a fa267_1 rfl rfl rfl ?_
   exact du h
  ·intro q3 w Γx Ωx h
   refine OpS.loadSi h .z fragment_open.wk rfl (idx_ne e10) PA.a (Get.comp (Get.arr e10) (GetS.ok (GetS.iso _ (GetS.there (GetS.here GetS.id))))) ty3 rfl rfl rfl ?_
   exact du h
  ·intro q3 w Γx Ωx h
   refine OpS.bin rfl rfl rfl rfl rfl ?_
   exact du h
  ·intro q3 w Γx Ωx h
   refine OpS.pick rfl rfl rfl rfl ?_
   exact du h
  ·intro q3 w Γx Ωx h
   refine OpS.mv rfl rfl rfl ?_
   exact ⟨undef,(congrArg (λ z_=>some (Value.bool z_)) e25),trivial,h⟩
  have h89:=h
  refine gp rfl (gp rfl (gp rfl (gp rfl (gp rfl (gp rfl (gk rfl (ga rfl (nil (Run.slim [(0,v0),(3,u1),(4,u2),(9,.int .i64 y3),(10,(padd (sp v0_0) ((y3:Int).toNat*6))),(11,.int .i64 (a1.Data.length:Int)),(53,.bool true)] ⟨rfl,rfl,rfl,rfl,rfl,rfl,rfl,trivial⟩ ?_)))))))))
  exact hj1 (true) _ _ ⟨rfl,(h89.facts .nil).picks (.cons (.s (.s .z)) (.cons (.s .z) (.cons (.s .z) (.cons .z .nil))))⟩ hF
 have hG:=hF
 subst e26
 have hF:=hG
 refine Run.drawV (Ωs:=[(false,.box 245 (fragment_Assembler.repW v0_0) v0 a0),(true,.box 155 Whole_.rep u2 Whole_.z)]) [.kr 54 (padd u1 4) [1],.kr 55 (.int .i64 a1.Sequence) [1],.k 56 (padd (sp v0_0) ((y3:Int).toNat*6)),.kr 57 (padd (sp v0_0) ((y3:Int).toNat*6)) [0],.kr 58 (padd (sp v0_0) ((y3:Int).toNat*6+5)) [0],.kr 59 (.int .i64 x3.last) [0],.k 60 (.int .i64 (IntKind.i64.wrap (x3.last+1))),.k 61 (.int .i64 (Int.tmod (IntKind.i64.wrap (x3.last+1)) 4)),.k 62 (.bool (a1.Sequence != (Int.tmod (IntKind.i64.wrap (x3.last+1)) 4))),.k 63 (.bool false),.k 64 (.int .i64 (a1.Data.length:Int)),.k 65 (padd (sp v0_0) ((y3:Int).toNat*6)),.kr 66 (padd (sp v0_0) ((y3:Int).toNat*6)) [0],.kr 67 (padd (sp v0_0) ((y3:Int).toNat*6+4)) [0],.kr 68 (.int .i64 x3.size) [0],.k 69 (.bool (decide ((a1.Data.length:Int)>x3.size))),.k 70 (.bool (decide ((a1.Data.length:Int)>x3.size))),.k 71 (.bool false),.k 72 (.int .i64 (a1.Data.length:Int)),.k 73 (padd (sp v0_0) ((y3:Int).toNat*6)),.kr 74 (padd (sp v0_0) ((y3:Int).toNat*6)) [0],.kr 75 (padd (sp v0_0) ((y3:Int).toNat*6+4)) [0],.kr 76 (.int .i64 x3.size) [0]] [[],[0],[],[2],[3],[4],[5],[6],[1,7],[8],[9],[9],[11,9],[12,9],[13,9],[10,14,9],[9,15],[16],[17],[17],[19,17],[20,17],[21,17]] [[(false,.oval (oslice 267 6 (λ _=>fragment_open.orep)) v0_0 a0.open_)],[(false,.box 139 Packet_.rep u1 a1)]] [0,1,2,3,4,5,6,7,8,9,10,11,12,13,14,15,16,17,18,19,20,21,22,23,24] Try_mixed rfl rfl rfl h87 (.cons ?_ (.cons ?_ (.cons ?_ (.cons ?_ (.cons ?_ (.cons ?_ (.cons ?_ (.cons ?_ (.cons ?_ (.cons ?_ (.cons ?_ (.cons ?_ (.cons ?_ (.cons ?_ (.cons ?_ (.cons ?_ (.cons ?_ (.cons ?_ (.cons ?_ (.cons ?_ (.cons ?_ (.cons ?_ (.cons ?_ .nil))))))))))))))))))))))) (λ q3 w hq5 h=>?_)
 ·intro q3 w Γx Ωx h
  refine OpS.fbox (o3:=4) h .z PA.z fa139_4 rfl rfl rfl rfl ?_
  exact du h
 ·intro q3 w Γx Ωx h
  refine OpS.loadBi h .z PA.a (Get.fld Packet_.f4) ty3 rfl rfl rfl ?_
  exact du h
 ·intro q3 w Γx Ωx h
  refine OpS.mv rfl rfl rfl ?_
  exact du h
 ·intro q3 w Γx Ωx h
  refine OpS.nchkO h .z (idx_ne e10) PA.a rfl rfl rfl ?_
  exact du h
 ·intro q3 w Γx Ωx h
  refine OpS.fownD h .z (idx_ne e10) PA.a fa267_2 rfl rfl rfl ?_
  exact du h
 ·intro q3 w Γx Ωx h
  refine OpS.loadSi h .z fragment_open.wk rfl (idx_ne e10) PA.a (Get.comp (Get.arr e10) (GetS.ok (GetS.iso _ (GetS.there (GetS.there (GetS.here GetS.id)))))) ty3 rfl rfl rfl ?_
  exact du h
 ·intro q3 w Γx Ωx h
  refine OpS.bin rfl rfl rfl rfl rfl ?_
  exact du h
 ·intro q3 w Γx Ωx h
  refine OpS.rem rfl rfl rfl rfl (by decide) ?_
  exact du h
 ·intro q3 w Γx Ωx h
  refine OpS.bin rfl rfl rfl rfl rfl ?_
  exact du h
 ·intro q3 w Γx Ωx h
  refine OpS.mv rfl rfl rfl ?_
  exact ⟨undef,(congrArg (λ z_=>some (Value.bool z_)) e23),trivial,h⟩
 ·intro q3 w Γx Ωx h
  refine OpS.mv rfl rfl rfl ?_
  exact du h
 ·intro q3 w Γx Ωx h
  refine OpS.mv rfl rfl rfl ?_
  exact du h
 ·intro q3 w Γx Ωx h
  refine OpS.nchkO h .z (idx_ne e10) PA.a rfl rfl rfl ?_
  exact du h
 ·intro q3 w Γx Ωx h
  refine OpS.fownD h .z (idx_ne e10) PA.a fa267_1 rfl rfl rfl ?_
  exact du h
 ·intro q3 w Γx Ωx h
  refine OpS.loadSi h .z fragment_open.wk rfl (idx_ne e10) PA.a (Get.comp (Get.arr e10) (GetS.ok (GetS.iso _ (GetS.there (GetS.here GetS.id))))) ty3 rfl rfl rfl ?_
  exact du h
 ·intro q3 w Γx Ωx h
  refine OpS.bin rfl rfl rfl rfl rfl ?_
  exact du h
 ·intro q3 w Γx Ωx h
  refine OpS.pick rfl rfl rfl rfl ?_
  exact du h
 ·intro q3 w Γx Ωx h
  refine OpS.mv rfl rfl rfl ?_
  exact ⟨undef,(congrArg (λ z_=>some (Value.bool z_)) e25),trivial,h⟩
 ·intro q3 w Γx Ωx h
  refine OpS.mv rfl rfl rfl ?_
  exact du h
 ·intro q3 w Γx Ωx h
  refine OpS.mv rfl rfl rfl ?_
  exact du h
 ·intro q3 w Γx Ωx h
  refine OpS.nchkO h .z (idx_ne e10) PA.a rfl rfl rfl ?_
  exact du h
 ·intro q3 w Γx Ωx h
  refine OpS.fownD h .z (idx_ne e10) PA.a fa267_1 rfl rfl rfl ?_
  exact du h
 ·intro q3 w Γx Ωx h
  refine OpS.loadSi h .z fragment_open.wk rfl (idx_ne e10) PA.a (Get.comp (Get.arr e10) (GetS.ok (GetS.iso _ (GetS.there (GetS.here GetS.id))))) ty3 rfl rfl rfl ?_
  exact du h
 have h90:=h
 refine gb rfl (gm rfl ?_)
 refine RunL.caseb hF (λ e27 hF=>?_) (λ e27 hF=>?_)
 ·refine op (OpS.fbox (o3:=3) h90 (.s .z) PA.z fa139_3 rfl rfl rfl rfl ?_)
  refine op (OpS.loadBb h90 (.s .z) PA.a (Get.fld Packet_.f3) ty4 rfl rfl rfl ?_)
  refine op (OpS.not rfl rfl rfl ?_)
  refine gk rfl (gk rfl (ga rfl ?_))
  obtain ⟨x10,e28,hF⟩:=letP_use hF
  refine RunL.nameb e28 ?_
  refine nil (Run.slim [(0,v0),(3,u1),(4,u2),(9,.int .i64 y3),(10,(padd (sp v0_0) ((y3:Int).toNat*6))),(11,.int .i64 (a1.Data.length:Int)),(53,.bool x10)] ⟨rfl,rfl,rfl,rfl,rfl,rfl,rfl,trivial⟩ ?_)
  exact hj1 (x10) _ _ ⟨rfl,(h90.facts .nil).picks (.cons (.s (.s .z)) (.cons (.s .z) (.cons (.s .z) (.cons .z .nil))))⟩ hF
 refine gp rfl (gp rfl (gp rfl (gk rfl (gk rfl (ga rfl (nil (Run.slim [(0,v0),(3,u1),(4,u2),(9,.int .i64 y3),(10,(padd (sp v0_0) ((y3:Int).toNat*6))),(11,.int .i64 (a1.Data.length:Int)),(53,.bool false)] ⟨rfl,rfl,rfl,rfl,rfl,rfl,rfl,trivial⟩ ?_)))))))
 exact hj1 (false) _ _ ⟨rfl,(h90.facts .nil).picks (.cons (.s (.s .z)) (.cons (.s .z) (.cons (.s .z) (.cons .z .nil))))⟩ hF
set_option maxHeartbeats 8000000 in set_option maxRecDepth 20000 in
theorem message_parse_ok {fuel:Nat} {a0:List Int} {a1:Int} {y:Message_×Int} (hF:message_parse fuel a0 a1=some y) {w:World} {v0:Value} :
  Spec Tryz.prog 141 [v0,.int .i64 a1].toArray w [(false,.val (Rep.slice (Rep.int .u8)) v0 a0)] [] (λ v Γr Ωr Ωo=>∃ u0:Value,v=.tuple #[u0,.int .i64 y.2]∧Γr=[(true,.val Message_.rep u0 y.1)]∧Ωr=[]∧Ωo=[]):=by
 refine Spec.of (L:=[(0,v0),(1,.int .i64 a1)]) Tryz.func141 rfl ⟨rfl,rfl,trivial⟩ rfl (λ e h=>?_)
 unfold message_parse at hF
 refine sr (op (OpS.alloc h ti130 Message_.zr rfl rfl (λ u1 w1 h1=>?_)))
 refine ga rfl (nil (Run.seq (sr (gm rfl ?_))))
 obtain ⟨x1,e1,hF⟩:=bindP_use hF
 refine op (OpS.sub h1 Tryz.underlying24 ty5 rfl rfl rfl rfl rfl (V.at .z) e1 (λ u2 h2=>?_))
 obtain ⟨y1,e2,hF⟩:=bindP_use hF
 refine op (OpS.callP h2 Tryz.func184 rfl rfl rfl rfl (vs:=[u2]) rfl (checksum_Sum8_ok e2) (.cons (f:=false) (V.at .z) .nil) ?_)
 rintro _ w2 _ _ _ ⟨rfl,rfl,rfl,rfl⟩ h3
 have h4:=h3 rfl rfl
 simp only [ca,na] at h4
 refine gb rfl (gm rfl ?_)
 refine RunL.join (σ:=Bool) (λ s_ L_ w_=>L_=[(0,v0),(1,.int .i64 a1),(4,u1),(16,.bool s_)]∧St e w_ [(false,.val (Rep.slice (Rep.int .u8)) v0 a0)] [(true,.box 130 Message_.rep u1 Message_.z)]) hF (λ s1 _ w3 hI hF=>?_) (λ j1 hj1 hF=>?_)
 ·obtain ⟨rfl,h5⟩:=hI
  refine Run.ite rfl hF (λ e3 hF=>?_) (λ e3 hF=>?_)
  ·refine sr (op (OpS.build (f:=true) (x':=Message_.z) h5 pl130 ti130 Message_.zr rfl rfl rfl .nil (λ u3 h6=>?_)))
   refine op (OpS.storeB (f':=true) h6 .z PA.z Put.id ty130 rfl rfl rfl (V.at .z) (.inl rfl) (λ w4 h7=>?_))
   refine ga rfl (nil ?_)
   obtain ⟨u4,hu1,h8⟩:=res_box h7 .z ty130
   refine Run.retP rfl (.cell rfl hu1 (.tmp rfl .nil)) ?_
   cases hF
   exact Post.mk' ⟨u4,rfl,rfl,rfl,rfl⟩ (h8.picks .nil) (.val (V.at .z) .nil)
  refine Run.skip (Run.seq ?_)
  obtain ⟨x2,e4,hF⟩:=bindP_use hF
  obtain ⟨x3,e5,hF⟩:=bindP_use hF
  obtain ⟨x4,e6,hF⟩:=bindP_use hF
  obtain ⟨x5,e7,hF⟩:=bindP_use hF
  obtain ⟨x6,e8,hF⟩:=bindP_use hF
  obtain ⟨x7,e9,hF⟩:=bindP_use hF
  obtain ⟨y2,e10,hF⟩:=bindP_use hF
  refine Run.drawV (Ωs:=[(true,.box 130 Message_.rep u1 Message_.z)]) [.k 18 v0,.f 19 (λ u_=>[(false,.ptr (Rep.int .u8) u_ x2)]),.k 20 (.int .u8 x2),.k 21 (.int .u8 (IntKind.u8.wrap (Int.tdiv x2 2))),.k 22 v0,.f 23 (λ u_=>[(false,.ptr (Rep.int .u8) u_ x3)]),.k 24 (.int .u8 x3),.k 25 (.int .u8 (IntKind.u8.wrap (Int.tdiv x3 2))),.k 26 v0,.f 27 (λ u_=>[(false,.ptr (Rep.int .u8) u_ x4)]),.k 28 (.int .u8 x4),.k 29 (.int .u8 (IntKind.u8.wrap (Int.tdiv x4 4))),.k 30 v0,.f 31 (λ u_=>[(false,.ptr (Rep.int .u8) u_ x5)]),.k 32 (.int .u8 x5),.k 33 v0,.f 34 (λ u_=>[(false,.ptr (Rep.int .u8) u_ x4)]),.k 35 (.int .u8 x4),.k 36 (.int .u8 (Int.tmod x4 4)),.k 37 (.int .i64 (IntKind.i64.wrap (Int.tmod x4 4))),.k 38 v0,.f 39 (λ u_=>[(false,.ptr (Rep.int .u8) u_ x6)]),.k 40 (.int .u8 x6),.k 41 (.int .u8 (Int.tmod x6 4)),.k 42 (.int .i64 (IntKind.i64.wrap (Int.tmod x6 4))),.k 43 v0,.f 44 (λ u_=>[(false,.ptr (Rep.int .u8) u_ x6)]),.k 45 (.int .u8 x6),.k 46 (.int .u8 (IntKind.u8.wrap (Int.tdiv x6 4))),.k 47 (.int .i64 (IntKind.i64.wrap (IntKind.u8.wrap (Int.tdiv x6 4)))),.k 48 v0,.k 49 (.int .i64 a1),.k 50 v0,.k 51 (.int .i64 (a0.length:Int)),.k 52 (.int .i64 (IntKind.i64.wrap ((a0.length:Int)-1))),.f 53 (λ u_=>[(false,.val (Rep.slice (Rep.int .u8)) u_ x7)]),.f 54 (λ u_=>[(true,.val (Rep.slice (Rep.int .u8)) u_ y2)]),.f 55 (λ u_=>[(true,.val Message_.rep u_ (⟨(IntKind.u8.wrap (Int.tdiv x2 2)),(IntKind.u8.wrap (Int.tdiv x3 2)),(IntKind.u8.wrap (Int.tdiv x4 4)),x5,(IntKind.i64.wrap (Int.tmod x4 4)),(IntKind.i64.wrap (Int.tmod x6 4)),(IntKind.i64.wrap (IntKind.u8.wrap (Int.tdiv x6 4))),0,y2⟩:Message_))]),⟨some 6,none,λ u_=>[],λ ds_ u_=>[(true,.box 130 Message_.rep u_ Message_.z)],[],[],none⟩] [[],[0],[1],[2],[],[4],[5],[6],[],[8],[9],[10],[],[12],[13],[],[15],[16],[17],[18],[],[20],[21],[22],[23],[],[25],[26],[27],[28],[],[],[],[32],[33],[30,31,34],[35],[3,7,11,14,19,24,29,36],[]] [] [0,1,2,3,4,5,6,7,8,9,10,11,12,13,14,15,16,17,18,19,20,21,22,23,24,25,26,27,28,29,30,31,32,33,34,35,36,37,38] Try_mixed rfl rfl rfl h5 (.cons ?_ (.cons ?_ (.cons ?_ (.cons ?_ (.cons ?_ (.cons ?_ (.cons ?_ (.cons ?_ (.cons ?_ (.cons ?_ (.cons ?_ (.cons ?_ (.cons ?_ (.cons ?_ (.cons ?_ (.cons ?_ (.cons ?_ (.cons ?_ (.cons ?_ (.cons ?_ (.cons ?_ (.cons ?_ (.cons ?_ (.cons ?_ (.cons ?_ (.cons ?_ (.cons ?_ (.cons ?_ (.cons ?_ (.cons ?_ (.cons ?_ (.cons ?_ (.cons ?_ (.cons ?_ (.cons ?_ (.cons ?_ (.cons ?_ (.cons ?_ (.cons ?_ .nil))))))))))))))))))))))))))))))))))))))) (λ q1 w hq1 h=>?_)
  ·intro q1 w Γx Ωx h
   refine OpS.mv rfl rfl rfl ?_
   exact du h
  ·intro q1 w Γx Ωx h
   refine OpS.iptr h Tryz.underlying24 ty5 rfl rfl rfl rfl (V.at .z) e4 (λ u h22=>?_)
   exact ⟨u,rfl,trivial,h22⟩
  ·intro q1 w Γx Ωx h
   refine OpS.loadi h ty5 rfl rfl rfl .z ?_
   exact du h
  ·intro q1 w Γx Ωx h
   refine OpS.quo rfl rfl rfl rfl (by decide) ?_
   exact du h
  ·intro q1 w Γx Ωx h
   refine OpS.mv rfl rfl rfl ?_
   exact du h
  ·intro q1 w Γx Ωx h
   refine OpS.iptr h Tryz.underlying24 ty5 rfl rfl rfl rfl (V.at .z) e5 (λ u h23=>?_)
   exact ⟨u,rfl,trivial,h23⟩
  ·intro q1 w Γx Ωx h
   refine OpS.loadi h ty5 rfl rfl rfl .z ?_
   exact du h
  ·intro q1 w Γx Ωx h
   refine OpS.quo rfl rfl rfl rfl (by decide) ?_
   exact du h
  ·intro q1 w Γx Ωx h
   refine OpS.mv rfl rfl rfl ?_
   exact du h
  ·intro q1 w Γx Ωx h
   refine OpS.iptr h Tryz.underlying24 ty5 rfl rfl rfl rfl (V.at .z) e6 (λ u h24=>?_)
   exact ⟨u,rfl,trivial,h24⟩
  ·intro q1 w Γx Ωx h
   refine OpS.loadi h ty5 rfl rfl rfl .z ?_
   exact du h
  ·intro q1 w Γx Ωx h
   refine OpS.quo rfl rfl rfl rfl (by decide) ?_
   exact du h
  ·intro q1 w Γx Ωx h
   refine OpS.mv rfl rfl rfl ?_
   exact du h
  ·intro q1 w Γx Ωx h
   refine OpS.iptr h Tryz.underlying24 ty5 rfl rfl rfl rfl (V.at .z) e7 (λ u h25=>?_)
   exact ⟨u,rfl,trivial,h25⟩
  ·intro q1 w Γx Ωx h
   refine OpS.loadi h ty5 rfl rfl rfl .z ?_
   exact du h
  ·intro q1 w Γx Ωx h
   refine OpS.mv rfl rfl rfl ?_
   exact du h
  ·intro q1 w Γx Ωx h
   refine OpS.iptr h Tryz.underlying24 ty5 rfl rfl rfl rfl (V.at .z) e6 (λ u h26=>?_)
   exact ⟨u,rfl,trivial,h26⟩
  ·intro q1 w Γx Ωx h
   refine OpS.loadi h ty5 rfl rfl rfl .z ?_
   exact du h
  ·intro q1 w Γx Ωx h
   refine OpS.rem rfl rfl rfl rfl (by decide) ?_
   exact du h
  ·intro q1 w Γx Ωx h
   refine OpS.conv Tryz.underlying5 Tryz.underlying3 rfl rfl rfl ?_
   exact du h
  ·intro q1 w Γx Ωx h
   refine OpS.mv rfl rfl rfl ?_
   exact du h
  ·intro q1 w Γx Ωx h
   refine OpS.iptr h Tryz.underlying24 ty5 rfl rfl rfl rfl (V.at .z) e8 (λ u h27=>?_)
   exact ⟨u,rfl,trivial,h27⟩
  ·intro q1 w Γx Ωx h
   refine OpS.loadi h ty5 rfl rfl rfl .z ?_
   exact du h
  ·intro q1 w Γx Ωx h
   refine OpS.rem rfl rfl rfl rfl (by decide) ?_
   exact du h
  ·intro q1 w Γx Ωx h
   refine OpS.conv Tryz.underlying5 Tryz.underlying3 rfl rfl rfl ?_
   exact du h
  ·intro q1 w Γx Ωx h
   refine OpS.mv rfl rfl rfl ?_
   exact du h
  ·intro q1 w Γx Ωx h
   refine OpS.iptr h Tryz.underlying24 ty5 rfl rfl rfl rfl (V.at .z) e8 (λ u h28=>?_)
   exact ⟨u,rfl,trivial,h28⟩
  ·intro q1 w Γx Ωx h
   refine OpS.loadi h ty5 rfl rfl rfl .z ?_
   exact du h
  ·intro q1 w Γx Ωx h
   refine OpS.quo rfl rfl rfl rfl (by decide) ?_
   exact du h
  ·intro q1 w Γx Ωx h
   refine OpS.conv Tryz.underlying5 Tryz.underlying3 rfl rfl rfl ?_
   exact du h
  ·intro q1 w Γx Ωx h
   refine OpS.mv rfl rfl rfl ?_
   exact du h
  ·intro q1 w Γx Ωx h
   refine OpS.mv rfl rfl rfl ?_
   exact du h
  ·intro q1 w Γx Ωx h
   refine OpS.mv rfl rfl rfl ?_
   exact du h
  ·intro q1 w Γx Ωx h
   refine OpS.len h Tryz.underlying24 rfl rfl rfl (V.at .z) ?_
   exact du h
  ·intro q1 w Γx Ωx h
   refine OpS.bin rfl rfl rfl rfl rfl ?_
   exact du h
  ·intro q1 w Γx Ωx h
   refine OpS.sub h Tryz.underlying24 ty5 rfl rfl rfl rfl rfl (V.at .z) e9 (λ u h29=>?_)
   exact ⟨u,rfl,trivial,h29⟩
  ·intro q1 w Γx Ωx h
   refine OpS.callP h Tryz.func113 rfl rfl rfl rfl (vs:=[(q1 35)]) rfl (slices_Clone_byte_byte_ok e10) (.cons (f:=false) (V.at .z) .nil) ?_
   rintro u w7 _ _ _ ⟨_,rfl,rfl,rfl,rfl⟩ h30
   have h31:=h30 rfl rfl
   simp only [ca,na] at h31
   have h32:=h31.freeze
   exact ⟨u,rfl,trivial,h32⟩
  ·intro q1 w Γx Ωx h
   refine OpS.build (f:=true) (x':=(⟨(IntKind.u8.wrap (Int.tdiv x2 2)),(IntKind.u8.wrap (Int.tdiv x3 2)),(IntKind.u8.wrap (Int.tdiv x4 4)),x5,(IntKind.i64.wrap (Int.tmod x4 4)),(IntKind.i64.wrap (Int.tmod x6 4)),(IntKind.i64.wrap (IntKind.u8.wrap (Int.tdiv x6 4))),0,y2⟩:Message_)) h pl130 ti130 Message_.zr rfl rfl rfl (.cons rfl Message_.f0 rfl V.int (.cons rfl Message_.f1 rfl V.int (.cons rfl Message_.f2 rfl V.int (.cons rfl Message_.f3 rfl V.int (.cons rfl Message_.f4 rfl V.int (.cons rfl Message_.f5 rfl V.int (.cons rfl Message_.f6 rfl V.int (.cons rfl Message_.f8 rfl (V.at .z) .nil)))))))) (λ u h33=>?_)
   exact ⟨u,rfl,trivial,h33⟩
  ·intro q1 w Γx Ωx h
   refine OpS.alloc h ti130 Message_.zr rfl rfl (λ u w8 h34=>?_)
   exact ⟨u,rfl,trivial,h34⟩
  have h35:=h
  refine op (OpS.storeB (f':=true) h35 .z PA.z Put.id ty130 rfl rfl rfl (V.at (.s (.s (.s (.s (.s (.s (.s (.s (.s .z)))))))))) (.inl rfl) (λ w9 h36=>?_))
  refine nil (Run.slim [(6,(q1 38)),(0,v0),(1,.int .i64 a1),(4,u1)] ⟨rfl,rfl,rfl,rfl,trivial⟩ ?_)
  refine Run.seq (sr (gm rfl (gb rfl (nil ?_))))
  refine Run.join (σ:=Message_) (λ s_ L_ w_=>L_=[(0,v0),(1,.int .i64 a1),(4,u1),(6,(q1 38))]∧St e w_ [(false,.val (Rep.slice (Rep.int .u8)) v0 a0)] [(true,.box 130 Message_.rep u1 Message_.z),(true,.box 130 Message_.rep (q1 38) s_)]) hF (λ s2 _ w10 hI hF=>?_) (λ j2 hj2 hF=>?_)
  ·obtain ⟨rfl,h37⟩:=hI
   refine Run.seq (Run.block (sr (gm rfl ?_)))
   obtain ⟨x8,e11,hF⟩:=bindP_use hF
   refine op (OpS.iptr h37 Tryz.underlying24 ty5 rfl rfl rfl rfl (V.at .z) e11 (λ u5 h38=>?_))
   refine op (OpS.loadi h38 ty5 rfl rfl rfl .z ?_)
   refine op (OpS.rem rfl rfl rfl rfl (by decide) ?_)
   refine gb rfl (gm rfl ?_)
   refine RunL.join (σ:=Bool) (λ s_ L_ w_=>L_=[(4,u1),(6,(q1 38)),(64,.bool s_)]∧St e w_ [] [(true,.box 130 Message_.rep u1 Message_.z),(true,.box 130 Message_.rep (q1 38) s2)]) hF (λ s3 _ w11 hI hF=>?_) (λ j3 hj3 hF=>?_)
   ·obtain ⟨rfl,h39⟩:=hI
    refine Run.ite rfl hF (λ e12 hF=>?_) (λ e12 hF=>?_)
    ·refine sr (op (OpS.build (f:=true) (x':=Message_.z) h39 pl130 ti130 Message_.zr rfl rfl rfl .nil (λ u6 h40=>?_)))
     refine op (OpS.storeB (f':=true) h40 .z PA.z Put.id ty130 rfl rfl rfl (V.at .z) (.inl rfl) (λ w12 h41=>?_))
     refine ga rfl (nil ?_)
     obtain ⟨u7,hu2,h42⟩:=res_box h41 .z ty130
     refine Run.retP rfl (.cell rfl hu2 (.tmp rfl .nil)) ?_
     cases hF
     exact Post.mk' ⟨u7,rfl,rfl,rfl,rfl⟩ (h42.picks .nil) (.val (V.at .z) .nil)
    refine sr (op (OpS.fbox (o3:=0) h39 (.s .z) PA.z fa130_0 rfl rfl rfl rfl ?_))
    refine op (OpS.loadBi h39 (.s .z) PA.a (Get.fld Message_.f0) ty5 rfl rfl rfl ?_)
    obtain ⟨y3,e13,hF⟩:=bindP_use hF
    refine op (OpS.callP h39 Tryz.func191 rfl rfl rfl rfl (vs:=[.int .u8 s2.To]) rfl (message_address_ok e13) .nil ?_)
    rintro _ w13 _ _ _ ⟨rfl,rfl,rfl,rfl⟩ h43
    have h44:=h43 rfl rfl
    simp only [ca,na] at h44
    refine op (OpS.not rfl rfl rfl ?_)
    refine gm rfl ?_
    refine RunL.join (σ:=Bool) (λ s_ L_ w_=>L_=[(4,u1),(6,(q1 38)),(85,.bool s_)]∧St e w_ [] [(true,.box 130 Message_.rep u1 Message_.z),(true,.box 130 Message_.rep (q1 38) s2)]) hF (λ s4 _ w14 hI hF=>?_) (λ j4 hj4 hF=>?_)
    ·obtain ⟨rfl,h45⟩:=hI
     refine Run.ite rfl hF (λ e14 hF=>?_) (λ e14 hF=>?_)
     ·refine sr (op (OpS.build (f:=true) (x':=Message_.z) h45 pl130 ti130 Message_.zr rfl rfl rfl .nil (λ u8 h46=>?_)))
      refine op (OpS.storeB (f':=true) h46 .z PA.z Put.id ty130 rfl rfl rfl (V.at .z) (.inl rfl) (λ w15 h47=>?_))
      refine ga rfl (nil ?_)
      obtain ⟨u9,hu3,h48⟩:=res_box h47 .z ty130
      refine Run.retP rfl (.cell rfl hu3 (.tmp rfl .nil)) ?_
      cases hF
      exact Post.mk' ⟨u9,rfl,rfl,rfl,rfl⟩ (h48.picks .nil) (.val (V.at .z) .nil)
     refine sr (op (OpS.fbox (o3:=8) h45 (.s .z) PA.z fa130_8 rfl rfl rfl rfl ?_))
     refine op (OpS.loadB h45 (.s .z) PA.a (Get.fld Message_.f8) ty24 rfl rfl rfl (λ u10 h49=>?_))
     refine op (OpS.len h49 Tryz.underlying24 rfl rfl rfl (V.at .z) ?_)
     refine gb rfl (ga rfl ?_)
     obtain ⟨x9,e15,hF⟩:=letP_use hF
     refine RunL.nameb e15 ?_
     refine nil ?_
     refine Run.ite rfl hF (λ e16 hF=>?_) (λ e16 hF=>?_)
     ·refine sr (op (OpS.build (f:=true) (x':=Message_.z) h49 pl130 ti130 Message_.zr rfl rfl rfl .nil (λ u11 h50=>?_)))
      refine op (OpS.storeB (f':=true) h50 .z PA.z Put.id ty130 rfl rfl rfl (V.at .z) (.inl rfl) (λ w16 h51=>?_))
      refine ga rfl (nil ?_)
      obtain ⟨u12,hu4,h52⟩:=res_box h51 .z ty130
      refine Run.retP rfl (.cell rfl hu4 (.tmp rfl .nil)) ?_
      cases hF
      exact Post.mk' ⟨u12,rfl,rfl,rfl,rfl⟩ (h52.picks .nil) (.val (V.at .z) .nil)
     refine Run.skip (Run.endBlock (sr (op (OpS.loadB h49 (.s .z) PA.z Get.id ty130 rfl rfl rfl (λ u13 h53=>?_)))))
     refine op (OpS.storeB (f':=true) h53 .z PA.z Put.id ty130 rfl rfl rfl (V.at .z) (.inl rfl) (λ w17 h54=>?_))
     refine ga rfl (nil ?_)
     obtain ⟨u14,hu5,h55⟩:=res_box h54 .z ty130
     refine Run.retP rfl (.cell rfl hu5 (.tmp rfl .nil)) ?_
     cases hF
     exact Post.mk' ⟨u14,rfl,rfl,rfl,rfl⟩ (h55.picks .nil) (.val (V.at .z) .nil)
    refine RunL.caseb hF (λ e17 hF=>?_) (λ e17 hF=>?_)
    ·refine gp rfl (gp rfl (gp rfl (gp rfl (gk rfl (ga rfl (nil (Run.slim [(4,u1),(6,(q1 38)),(85,.bool true)] ⟨rfl,rfl,rfl,trivial⟩ ?_)))))))
     exact hj4 (true) _ _ ⟨rfl,(h44.facts .nil).picks (.cons .z (.cons .z .nil))⟩ hF
    refine op (OpS.fbox (o3:=1) h44 (.s .z) PA.z fa130_1 rfl rfl rfl rfl ?_)
    refine op (OpS.loadBi h44 (.s .z) PA.a (Get.fld Message_.f1) ty5 rfl rfl rfl ?_)
    obtain ⟨y4,e18,hF⟩:=bindP_use hF
    refine op (OpS.callP h44 Tryz.func191 rfl rfl rfl rfl (vs:=[.int .u8 s2.From]) rfl (message_address_ok e18) .nil ?_)
    rintro _ w18 _ _ _ ⟨rfl,rfl,rfl,rfl⟩ h56
    have h57:=h56 rfl rfl
    simp only [ca,na] at h57
    refine op (OpS.not rfl rfl rfl ?_)
    refine gk rfl (ga rfl ?_)
    obtain ⟨x10,e19,hF⟩:=letP_use hF
    refine RunL.nameb e19 ?_
    refine nil (Run.slim [(4,u1),(6,(q1 38)),(85,.bool x10)] ⟨rfl,rfl,rfl,trivial⟩ ?_)
    exact hj4 (x10) _ _ ⟨rfl,(h57.facts .nil).picks (.cons .z (.cons .z .nil))⟩ hF
   refine RunL.caseb hF (λ e20 hF=>?_) (λ e20 hF=>?_)
   ·refine gp rfl (gp rfl (gp rfl (gp rfl (gp rfl (gk rfl (gm rfl (gp rfl (gp rfl (gp rfl (gp rfl (gp rfl (gk rfl (ga rfl (nil (Run.slim [(4,u1),(6,(q1 38)),(64,.bool true)] ⟨rfl,rfl,rfl,trivial⟩ ?_)))))))))))))))
    exact hj3 (true) _ _ ⟨rfl,(h38.facts .nil).picks (.cons .z (.cons .z .nil))⟩ hF
   refine gm rfl ?_
   obtain ⟨x11,e21,hF⟩:=bindP_use hF
   refine op (OpS.iptr h38 Tryz.underlying24 ty5 rfl rfl rfl rfl (V.at (.s .z)) e21 (λ u15 h58=>?_))
   refine op (OpS.loadi h58 ty5 rfl rfl rfl .z ?_)
   refine op (OpS.rem rfl rfl rfl rfl (by decide) ?_)
   refine gb rfl (gk rfl (gm rfl ?_))
   refine RunL.caseb hF (λ e22 hF=>?_) (λ e22 hF=>?_)
   ·refine gp rfl (gp rfl (gp rfl (gp rfl (gp rfl (gk rfl (ga rfl (nil (Run.slim [(4,u1),(6,(q1 38)),(64,.bool true)] ⟨rfl,rfl,rfl,trivial⟩ ?_))))))))
    exact hj3 (true) _ _ ⟨rfl,(h58.facts .nil).picks (.cons .z (.cons .z .nil))⟩ hF
   refine op (OpS.loadB h58 (.s .z) PA.z Get.id ty130 rfl rfl rfl (λ u16 h59=>?_))
   obtain ⟨y5,e23,hF⟩:=bindP_use hF
   refine op (OpS.callP h59 Tryz.func124 rfl rfl rfl rfl (vs:=[u16]) rfl (message_request_ok e23) (.cons (f:=true) (V.at .z) .nil) ?_)
   rintro _ w19 _ _ _ ⟨rfl,rfl,rfl,rfl⟩ h60
   have h61:=h60 rfl rfl
   simp only [ca,na] at h61
   refine gm rfl (gb rfl (op (OpS.neb Tryz.underlying4 rfl rfl rfl rfl ?_)))
   refine gk rfl (ga rfl ?_)
   obtain ⟨x12,e24,hF⟩:=letP_use hF
   refine RunL.nameb e24 ?_
   refine nil (Run.slim [(4,u1),(6,(q1 38)),(64,.bool x12)] ⟨rfl,rfl,rfl,trivial⟩ ?_)
   exact hj3 (x12) _ _ ⟨rfl,(h61.facts .nil).picks (.cons .z (.cons .z .nil))⟩ hF
  refine Run.ite rfl hF (λ e25 hF=>?_) (λ e25 hF=>?_)
  ·refine Run.reg (gm rfl (gm rfl (gb rfl ?_)))
   obtain ⟨x13,e26,hF⟩:=bindP_use hF
   refine op (OpS.iptr h36 Tryz.underlying24 ty5 rfl rfl rfl rfl (V.at (.s (.s (.s (.s (.s (.s (.s (.s (.s (.s .z))))))))))) e26 (λ u17 h62=>?_))
   refine op (OpS.loadi h62 ty5 rfl rfl rfl .z ?_)
   refine op (OpS.fbox (o3:=7) h62 .z PA.z fa130_7 rfl rfl rfl rfl ?_)
   refine op (OpS.storeB (f':=true) h62 .z PA.a (Put.fld Message_.f7) ty5 rfl rfl rfl V.int (.inl rfl) (λ w20 h63=>?_))
   refine nil (Run.slim [(0,v0),(1,.int .i64 a1),(4,u1),(6,(q1 38))] ⟨rfl,rfl,rfl,rfl,trivial⟩ ?_)
   exact hj2 ((⟨(IntKind.u8.wrap (Int.tdiv x2 2)),(IntKind.u8.wrap (Int.tdiv x3 2)),(IntKind.u8.wrap (Int.tdiv x4 4)),x5,(IntKind.i64.wrap (Int.tmod x4 4)),(IntKind.i64.wrap (Int.tmod x6 4)),(IntKind.i64.wrap (IntKind.u8.wrap (Int.tdiv x6 4))),x13,y2⟩:Message_)) _ _ ⟨rfl,(h63.facts (.atm (.s (.s (.s (.s (.s (.s (.s (.s (.s (.s (.s .z))))))))))) .nil)).picks (.cons (.s .z) (.cons .z .nil))⟩ hF
  refine Run.skip (Run.slim [(0,v0),(1,.int .i64 a1),(4,u1),(6,(q1 38))] ⟨rfl,rfl,rfl,rfl,trivial⟩ ?_)
  exact hj2 ((⟨(IntKind.u8.wrap (Int.tdiv x2 2)),(IntKind.u8.wrap (Int.tdiv x3 2)),(IntKind.u8.wrap (Int.tdiv x4 4)),x5,(IntKind.i64.wrap (Int.tmod x4 4)),(IntKind.i64.wrap (Int.tmod x6 4)),(IntKind.i64.wrap (IntKind.u8.wrap (Int.tdiv x6 4))),0,y2⟩:Message_)) _ _ ⟨rfl,(h36.facts (.atm (.s (.s (.s (.s (.s (.s (.s (.s (.s (.s .z)))))))))) .nil)).picks (.cons (.s .z) (.cons .z .nil))⟩ hF
 refine RunL.caseb hF (λ e27 hF=>?_) (λ e27 hF=>?_)
 ·refine gp rfl (gp rfl (gp rfl (gp rfl (gk rfl (nil (Run.slim [(0,v0),(1,.int .i64 a1),(4,u1),(16,.bool true)] ⟨rfl,rfl,rfl,rfl,trivial⟩ ?_))))))
  exact hj1 (true) _ _ ⟨rfl,(h4.facts (.atm (.s .z) .nil)).picks (.cons .z .nil)⟩ hF
 refine gm rfl ?_
 obtain ⟨x14,e28,hF⟩:=bindP_use hF
 refine op (OpS.sub h4 Tryz.underlying24 ty5 rfl rfl rfl rfl rfl (V.at (.s .z)) e28 (λ u18 h64=>?_))
 obtain ⟨y6,e29,hF⟩:=bindP_use hF
 refine op (OpS.callP h64 Tryz.func184 rfl rfl rfl rfl (vs:=[u18]) rfl (checksum_Sum8_ok e29) (.cons (f:=false) (V.at .z) .nil) ?_)
 rintro _ w21 _ _ _ ⟨rfl,rfl,rfl,rfl⟩ h65
 have h66:=h65 rfl rfl
 simp only [ca,na] at h66
 refine gb rfl (gk rfl (nil (Run.slim [(0,v0),(1,.int .i64 a1),(4,u1),(16,.bool (y6 != 0))] ⟨rfl,rfl,rfl,rfl,trivial⟩ ?_)))
 exact hj1 (y6 != 0) _ _ ⟨rfl,(h66.facts (.atm (.s (.s .z)) .nil)).picks (.cons .z .nil)⟩ hF
theorem message_ParseRequest_ok {fuel:Nat} {a0:List Int} {y:Message_×Int} (hF:message_ParseRequest fuel a0=some y) {w:World} {v0:Value} :
  Spec Tryz.prog 65 [v0].toArray w [(false,.val (Rep.slice (Rep.int .u8)) v0 a0)] [] (λ v Γr Ωr Ωo=>∃ u0:Value,v=.tuple #[u0,.int .i64 y.2]∧Γr=[(true,.val Message_.rep u0 y.1)]∧Ωr=[]∧Ωo=[]):=by
 refine Spec.of (L:=[(0,v0)]) Tryz.func65 rfl ⟨rfl,trivial⟩ rfl (λ e h=>?_)
 unfold message_ParseRequest at hF
 refine sr (op (OpS.alloc h ti130 Message_.zr rfl rfl (λ u1 w1 h1=>?_)))
 refine ga rfl (nil (Run.seq (sr (gm rfl (op (OpS.len h1 Tryz.underlying24 rfl rfl rfl (V.at .z) ?_))))))
 refine gb rfl (nil ?_)
 refine Run.ite rfl hF (λ e1 hF=>?_) (λ e1 hF=>?_)
 ·refine sr (op (OpS.build (f:=true) (x':=Message_.z) h1 pl130 ti130 Message_.zr rfl rfl rfl .nil (λ u2 h2=>?_)))
  refine op (OpS.storeB (f':=true) h2 .z PA.z Put.id ty130 rfl rfl rfl (V.at .z) (.inl rfl) (λ w2 h3=>?_))
  refine ga rfl (nil ?_)
  obtain ⟨u3,hu1,h4⟩:=res_box h3 .z ty130
  refine Run.retP rfl (.cell rfl hu1 (.tmp rfl .nil)) ?_
  cases hF
  exact Post.mk' ⟨u3,rfl,rfl,rfl,rfl⟩ (h4.picks .nil) (.val (V.at .z) .nil)
 refine Run.skip (sr (gm rfl ?_))
 obtain ⟨y1,e2,hF⟩:=bindP_use hF
 refine op (OpS.callP h1 Tryz.func141 rfl rfl rfl rfl (vs:=[v0,.int .i64 6]) rfl (message_parse_ok e2) (.cons (f:=false) (V.at .z) .nil) ?_)
 rintro _ w3 _ _ _ ⟨u4,rfl,rfl,rfl,rfl⟩ h5
 have h6:=h5 rfl rfl
 simp only [ca,na] at h6
 refine op (OpS.ext rfl rfl rfl rfl ?_)
 refine op (OpS.ext rfl rfl rfl rfl ?_)
 refine op (OpS.storeB (f':=true) h6 .z PA.z Put.id ty130 rfl rfl rfl (V.at .z) (.inl rfl) (λ w4 h7=>?_))
 refine ga rfl (nil ?_)
 obtain ⟨u5,hu2,h8⟩:=res_box h7 .z ty130
 refine Run.retP rfl (.cell rfl hu2 (.tmp rfl .nil)) ?_
 cases hF
 exact Post.mk' ⟨u5,rfl,rfl,rfl,rfl⟩ (h8.picks .nil) (.val (V.at .z) .nil)
theorem bus_Bus_Pending_ok {fuel:Nat} {a0:bus_Bus} {a1:Int} {y:Int} (hF:bus_Bus_Pending fuel a0 a1=some y) {w:World} {v0 v0_0:Value} :
  Spec Tryz.prog 66 [v0,.int .i64 a1].toArray w [] [(false,.box 241 (bus_Bus.repW v0_0) v0 a0),(false,.oval (oslice 256 3 (λ _=>bus_master.orep)) v0_0 a0.masters)] (λ v Γr Ωr Ωo=>v=.int .i64 y∧Γr=[]∧Ωr=[]∧Ωo=[(false,.box 241 (bus_Bus.repW v0_0) v0 a0),(false,(.oval (oslice 256 3 (λ _=>bus_master.orep)) v0_0 a0.masters))]):=by
 refine Spec.of (L:=[(0,v0),(1,.int .i64 a1)]) Tryz.func66 rfl ⟨rfl,rfl,trivial⟩ rfl (λ e h=>?_)
 unfold bus_Bus_Pending at hF
 refine sr (ga rfl (nil (Run.seq (sr (gm rfl (gm rfl ?_))))))
 obtain ⟨y1,e1,hF⟩:=bindP_use hF
 have h1:=h.front (.cons .z (.cons .z .nil))
 refine op (OpS.callO h1 Tryz.func128 rfl rfl rfl rfl (vs:=[v0,.int .i64 a1]) rfl (bus_Bus_there_ok e1) rfl .nil ?_)
 rintro _ w1 _ _ _ ⟨rfl,rfl,rfl,rfl⟩ h2
 have h3:=h2
 simp only [ca,na] at h3
 refine op (OpS.not rfl rfl rfl ?_)
 refine nil ?_
 refine Run.ite rfl hF (λ e2 hF=>?_) (λ e2 hF=>?_)
 ·refine sr (ga rfl (nil (Run.retP rfl (.tmp rfl .nil) ?_)))
  cases hF
  exact Post.mk' ⟨rfl,rfl,rfl,rfl⟩ (h3.picks (.cons .z (.cons .z .nil))) .nil
 refine Run.skip (sr (gm rfl (op (OpS.nchk h3 .z rfl rfl rfl ?_))))
 refine op (OpS.fbox (o3:=0) h3 .z PA.z fa241_0 rfl rfl rfl rfl ?_)
 refine op (OpS.loadR h3 .z PA.a (GetS.ok (GetS.iso _ (GetS.here GetS.id))) ty239 rfl rfl rfl rfl rfl ?_)
 refine gm rfl ?_
 obtain ⟨x1,e3,hF⟩:=bindP_use hF
 refine op (OpS.iownD h3 (.s .z) Tryz.underlying239 sz256 rfl rfl rfl rfl e3 ?_)
 refine op (OpS.fownD h3 (.s .z) (idx_ne e3) PA.a fa256_0 rfl rfl rfl ?_)
 refine op (OpS.loadS (fr:=Rep.hollow) h3 (.s .z) bus_master.wk rfl (idx_ne e3) PA.a (Get.comp (Get.arr e3) (GetS.ok (GetS.iso _ (GetS.here GetS.id)))) (Ty.like ty170 (by rfl) (by rfl)) rfl rfl rfl (λ u1 h4=>?_))
 refine op (OpS.lenH h4 Tryz.underlying170 rfl rfl rfl (V.at .z) ?_)
 refine ga rfl (nil (Run.retP rfl (.tmp rfl .nil) ?_))
 cases hF
 exact Post.mk' ⟨rfl,rfl,rfl,rfl⟩ (h4.picks (.cons .z (.cons .z .nil))) .nil
set_option maxRecDepth 20000 in
theorem ref01_Same_ok {fuel:Nat} {a0:List Int} {a1:List Int} {y:Bool} (hF:ref01_Same fuel a0 a1=some y) {w:World} {v0 v1:Value} :
  Spec Tryz.prog 142 [v0,v1].toArray w [(false,.val (Rep.slice (Rep.int .u8)) v0 a0),(false,.val (Rep.slice (Rep.int .u8)) v1 a1)] [] (λ v Γr Ωr Ωo=>v=.bool y∧Γr=[]∧Ωr=[]∧Ωo=[]):=by
 refine Spec.of (L:=[(0,v0),(1,v1)]) Tryz.func142 rfl ⟨rfl,rfl,trivial⟩ rfl (λ e h=>?_)
 unfold ref01_Same at hF
 refine sr (ga rfl (nil (Run.seq (sr (gm rfl (op (OpS.len h Tryz.underlying24 rfl rfl rfl (V.at .z) ?_)))))))
 refine gm rfl (op (OpS.len h Tryz.underlying24 rfl rfl rfl (V.at (.s .z)) ?_))
 refine gb rfl (nil ?_)
 refine Run.ite rfl hF (λ e1 hF=>?_) (λ e1 hF=>?_)
 ·refine sr (ga rfl (nil (Run.retP rfl (.tmp rfl .nil) ?_)))
  cases hF
  exact Post.mk' ⟨rfl,rfl,rfl,rfl⟩ (h.picks .nil) .nil
 refine Run.skip (Run.seq (sr (ga rfl (nil (Run.block (Run.slim [(0,v0),(1,v1),(5,.int .i64 0)] ⟨rfl,rfl,rfl,trivial⟩ ?_))))))
 refine Run.loopP (σ:=Int) (λ s_ L_ w_=>L_=[(0,v0),(1,v1),(5,.int .i64 s_)]∧St e w_ [(false,.val (Rep.slice (Rep.int .u8)) v0 a0),(false,.val (Rep.slice (Rep.int .u8)) v1 a1)] []) hF ⟨rfl,(h.facts (.atm .z (.atm (.s .z) .nil))).picks .nil⟩ (λ k1 hk1 s1 _ w1 hI hF=>?_)
 obtain ⟨rfl,h1⟩:=hI
 refine Run.seq (sr (gm rfl (gm rfl (op (OpS.len h1 Tryz.underlying24 rfl rfl rfl (V.at .z) ?_)))))
 refine gb rfl (nil ?_)
 refine Run.ite rfl hF (λ e2 hF=>?_) (λ e2 hF=>?_)
 ·refine Run.skip (Run.seq (Run.block (Run.seq ?_)))
  obtain ⟨x1,e3,hF⟩:=bindP_use hF
  obtain ⟨x2,e4,hF⟩:=bindP_use hF
  refine Run.drawV (Ωs:=[]) [.k 17 v0,.k 18 (.int .i64 s1),.f 19 (λ u_=>[(false,.ptr (Rep.int .u8) u_ x1)]),.k 20 (.int .u8 x1),.k 21 v1,.k 22 (.int .i64 s1),.f 23 (λ u_=>[(false,.ptr (Rep.int .u8) u_ x2)]),.k 24 (.int .u8 x2)] [[],[],[0,1],[2],[],[],[4,5],[6]] [] [0,1,2,3,4,5,6,7] Try_mixed rfl rfl rfl h1 (.cons ?_ (.cons ?_ (.cons ?_ (.cons ?_ (.cons ?_ (.cons ?_ (.cons ?_ (.cons ?_ .nil)))))))) (λ q1 w hq1 h=>?_)
  ·intro q1 w Γx Ωx h
   refine OpS.mv rfl rfl rfl ?_
   exact du h
  ·intro q1 w Γx Ωx h
   refine OpS.mv rfl rfl rfl ?_
   exact du h
  ·intro q1 w Γx Ωx h
   refine OpS.iptr h Tryz.underlying24 ty5 rfl rfl rfl rfl (V.at .z) e3 (λ u h4=>?_)
   exact ⟨u,rfl,trivial,h4⟩
  ·intro q1 w Γx Ωx h
   refine OpS.loadi h ty5 rfl rfl rfl .z ?_
   exact du h
  ·intro q1 w Γx Ωx h
   refine OpS.mv rfl rfl rfl ?_
   exact du h
  ·intro q1 w Γx Ωx h
   refine OpS.mv rfl rfl rfl ?_
   exact du h
  ·intro q1 w Γx Ωx h
   refine OpS.iptr h Tryz.underlying24 ty5 rfl rfl rfl rfl (V.at (.s .z)) e4 (λ u h5=>?_)
   exact ⟨u,rfl,trivial,h5⟩
  ·intro q1 w Γx Ωx h
   refine OpS.loadi h ty5 rfl rfl rfl .z ?_
   exact du h
  have h6:=h
  refine gb rfl (nil ?_)
  refine Run.ite rfl hF (λ e5 hF=>?_) (λ e5 hF=>?_)
  ·refine sr (ga rfl (nil (Run.retP rfl (.tmp rfl .nil) ?_)))
   cases hF
   exact Post.mk' ⟨rfl,rfl,rfl,rfl⟩ (h6.picks .nil) .nil
  refine Run.skip (Run.endBlock (Run.reg (gm rfl (gb rfl (ga rfl ?_)))))
  obtain ⟨x3,e6,hF⟩:=letP_use hF
  refine RunL.name e6 ?_
  refine nil (Run.slim [(0,v0),(1,v1),(5,.int .i64 x3)] ⟨rfl,rfl,rfl,trivial⟩ ?_)
  exact hk1 (x3) _ _ ⟨rfl,(h6.facts (.atm (.s (.s .z)) (.atm (.s (.s (.s .z))) .nil))).picks .nil⟩ hF
 refine Run.exit rfl ?_
 refine sr (ga rfl (nil (Run.retP rfl (.tmp rfl .nil) ?_)))
 cases hF
 exact Post.mk' ⟨rfl,rfl,rfl,rfl⟩ (h1.picks .nil) .nil
set_option maxHeartbeats 8000000 in set_option maxRecDepth 20000 in
theorem ref23_Same_ok {fuel:Nat} {a0:Message_} {a1:Message_} {y:Bool} (hF:ref23_Same fuel a0 a1=some y) {w:World} {v0 v1:Value} :
  Spec Tryz.prog 67 [v0,v1].toArray w [(false,.val Message_.rep v0 a0),(false,.val Message_.rep v1 a1)] [] (λ v Γr Ωr Ωo=>v=.bool y∧Γr=[]∧Ωr=[]∧Ωo=[]):=by
 refine Spec.of (L:=[(0,v0),(1,v1)]) Tryz.func67 rfl ⟨rfl,rfl,trivial⟩ rfl (λ e h=>?_)
 unfold ref23_Same at hF
 refine sr (op (OpS.boxF h rfl rfl rfl (V.at .z) (λ u1 w1 h1=>?_)))
 refine op (OpS.boxF h1 rfl rfl rfl (V.at (.s .z)) (λ u2 w2 h2=>?_))
 refine ga rfl (nil (sr (op (OpS.fbox (o3:=0) h2 (.s .z) PA.z fa130_0 rfl rfl rfl rfl ?_))))
 refine op (OpS.loadBi h2 (.s .z) PA.a (Get.fld Message_.f0) ty5 rfl rfl rfl ?_)
 refine op (OpS.fbox (o3:=0) h2 .z PA.z fa130_0 rfl rfl rfl rfl ?_)
 refine op (OpS.loadBi h2 .z PA.a (Get.fld Message_.f0) ty5 rfl rfl rfl ?_)
 refine gb rfl (gm rfl ?_)
 refine RunL.caseb hF (λ e1 hF=>?_) (λ e1 hF=>?_)
 ·refine op (OpS.fbox (o3:=1) h2 (.s .z) PA.z fa130_1 rfl rfl rfl rfl ?_)
  refine op (OpS.loadBi h2 (.s .z) PA.a (Get.fld Message_.f1) ty5 rfl rfl rfl ?_)
  refine op (OpS.fbox (o3:=1) h2 .z PA.z fa130_1 rfl rfl rfl rfl ?_)
  refine op (OpS.loadBi h2 .z PA.a (Get.fld Message_.f1) ty5 rfl rfl rfl ?_)
  refine gb rfl (gk rfl (gm rfl ?_))
  refine RunL.caseb hF (λ e2 hF=>?_) (λ e2 hF=>?_)
  ·refine op (OpS.fbox (o3:=2) h2 (.s .z) PA.z fa130_2 rfl rfl rfl rfl ?_)
   refine op (OpS.loadBi h2 (.s .z) PA.a (Get.fld Message_.f2) ty5 rfl rfl rfl ?_)
   refine op (OpS.fbox (o3:=2) h2 .z PA.z fa130_2 rfl rfl rfl rfl ?_)
   refine op (OpS.loadBi h2 .z PA.a (Get.fld Message_.f2) ty5 rfl rfl rfl ?_)
   refine gb rfl (gk rfl (gm rfl ?_))
   refine RunL.caseb hF (λ e3 hF=>?_) (λ e3 hF=>?_)
   ·refine op (OpS.fbox (o3:=3) h2 (.s .z) PA.z fa130_3 rfl rfl rfl rfl ?_)
    refine op (OpS.loadBi h2 (.s .z) PA.a (Get.fld Message_.f3) ty5 rfl rfl rfl ?_)
    refine op (OpS.fbox (o3:=3) h2 .z PA.z fa130_3 rfl rfl rfl rfl ?_)
    refine op (OpS.loadBi h2 .z PA.a (Get.fld Message_.f3) ty5 rfl rfl rfl ?_)
    refine gb rfl (gk rfl (gm rfl ?_))
    refine RunL.caseb hF (λ e4 hF=>?_) (λ e4 hF=>?_)
    ·refine op (OpS.fbox (o3:=4) h2 (.s .z) PA.z fa130_4 rfl rfl rfl rfl ?_)
     refine op (OpS.loadBi h2 (.s .z) PA.a (Get.fld Message_.f4) ty3 rfl rfl rfl ?_)
     refine op (OpS.fbox (o3:=4) h2 .z PA.z fa130_4 rfl rfl rfl rfl ?_)
     refine op (OpS.loadBi h2 .z PA.a (Get.fld Message_.f4) ty3 rfl rfl rfl ?_)
     refine gb rfl (gk rfl (gm rfl ?_))
     refine RunL.caseb hF (λ e5 hF=>?_) (λ e5 hF=>?_)
     ·refine op (OpS.fbox (o3:=5) h2 (.s .z) PA.z fa130_5 rfl rfl rfl rfl ?_)
      refine op (OpS.loadBi h2 (.s .z) PA.a (Get.fld Message_.f5) ty3 rfl rfl rfl ?_)
      refine op (OpS.fbox (o3:=5) h2 .z PA.z fa130_5 rfl rfl rfl rfl ?_)
      refine op (OpS.loadBi h2 .z PA.a (Get.fld Message_.f5) ty3 rfl rfl rfl ?_)
      refine gb rfl (gk rfl (gm rfl ?_))
      refine RunL.caseb hF (λ e6 hF=>?_) (λ e6 hF=>?_)
      ·refine op (OpS.fbox (o3:=6) h2 (.s .z) PA.z fa130_6 rfl rfl rfl rfl ?_)
       refine op (OpS.loadBi h2 (.s .z) PA.a (Get.fld Message_.f6) ty3 rfl rfl rfl ?_)
       refine op (OpS.fbox (o3:=6) h2 .z PA.z fa130_6 rfl rfl rfl rfl ?_)
       refine op (OpS.loadBi h2 .z PA.a (Get.fld Message_.f6) ty3 rfl rfl rfl ?_)
       refine gb rfl (gk rfl (gm rfl ?_))
       refine RunL.caseb hF (λ e7 hF=>?_) (λ e7 hF=>?_)
       ·refine op (OpS.fbox (o3:=7) h2 (.s .z) PA.z fa130_7 rfl rfl rfl rfl ?_)
        refine op (OpS.loadBi h2 (.s .z) PA.a (Get.fld Message_.f7) ty5 rfl rfl rfl ?_)
        refine op (OpS.fbox (o3:=7) h2 .z PA.z fa130_7 rfl rfl rfl rfl ?_)
        refine op (OpS.loadBi h2 .z PA.a (Get.fld Message_.f7) ty5 rfl rfl rfl ?_)
        refine gb rfl (gk rfl (gm rfl ?_))
        refine RunL.caseb hF (λ e8 hF=>?_) (λ e8 hF=>?_)
        ·refine op (OpS.fbox (o3:=8) h2 (.s .z) PA.z fa130_8 rfl rfl rfl rfl ?_)
         refine op (OpS.loadB h2 (.s .z) PA.a (Get.fld Message_.f8) ty24 rfl rfl rfl (λ u3 h3=>?_))
         refine op (OpS.fbox (o3:=8) h3 .z PA.z fa130_8 rfl rfl rfl rfl ?_)
         refine op (OpS.loadB h3 .z PA.a (Get.fld Message_.f8) ty24 rfl rfl rfl (λ u4 h4=>?_))
         obtain ⟨y1,e9,hF⟩:=bindP_use hF
         refine op (OpS.callP h4 Tryz.func142 rfl rfl rfl rfl (vs:=[u3,u4]) rfl (ref01_Same_ok e9) (.cons (f:=false) (V.at (.s .z)) (.cons (f:=false) (V.at .z) .nil)) ?_)
         rintro _ w3 _ _ _ ⟨rfl,rfl,rfl,rfl⟩ h5
         have h6:=h5 rfl rfl
         simp only [ca,na] at h6
         refine gk rfl (ga rfl (nil (Run.slim [(4,.bool y1)] ⟨rfl,trivial⟩ ?_)))
         refine Run.retP rfl (.tmp rfl .nil) ?_
         cases hF
         exact Post.mk' ⟨rfl,rfl,rfl,rfl⟩ (h6.picks .nil) .nil
        refine gp rfl (gp rfl (gp rfl (gp rfl (gp rfl (gk rfl (ga rfl (nil (Run.slim [(4,.bool false)] ⟨rfl,trivial⟩ ?_))))))))
        refine Run.retP rfl (.tmp rfl .nil) ?_
        cases hF
        exact Post.mk' ⟨rfl,rfl,rfl,rfl⟩ (h2.picks .nil) .nil
       refine gp rfl (gp rfl (gp rfl (gp rfl (gp rfl (gk rfl (gm rfl (gp rfl (gp rfl (gp rfl (gp rfl (gp rfl (gk rfl (ga rfl (nil (Run.slim [(4,.bool false)] ⟨rfl,trivial⟩ ?_)))))))))))))))
       refine Run.retP rfl (.tmp rfl .nil) ?_
       cases hF
       exact Post.mk' ⟨rfl,rfl,rfl,rfl⟩ (h2.picks .nil) .nil
      refine gp rfl (gp rfl (gp rfl (gp rfl (gp rfl (gk rfl (gm rfl (gp rfl (gp rfl (gp rfl (gp rfl (gp rfl (gk rfl (gm rfl (gp rfl (gp rfl (gp rfl ?_))))))))))))))))
      refine gp rfl (gp rfl (gk rfl (ga rfl (nil (Run.slim [(4,.bool false)] ⟨rfl,trivial⟩ ?_)))))
      refine Run.retP rfl (.tmp rfl .nil) ?_
      cases hF
      exact Post.mk' ⟨rfl,rfl,rfl,rfl⟩ (h2.picks .nil) .nil
     refine gp rfl (gp rfl (gp rfl (gp rfl (gp rfl (gk rfl (gm rfl (gp rfl (gp rfl (gp rfl (gp rfl (gp rfl (gk rfl (gm rfl (gp rfl (gp rfl (gp rfl ?_))))))))))))))))
     refine gp rfl (gp rfl (gk rfl (gm rfl (gp rfl (gp rfl (gp rfl (gp rfl (gp rfl (gk rfl (ga rfl (nil (Run.slim [(4,.bool false)] ⟨rfl,trivial⟩ ?_))))))))))))
     refine Run.retP rfl (.tmp rfl .nil) ?_
     cases hF
     exact Post.mk' ⟨rfl,rfl,rfl,rfl⟩ (h2.picks .nil) .nil
    refine gp rfl (gp rfl (gp rfl (gp rfl (gp rfl (gk rfl (gm rfl (gp rfl (gp rfl (gp rfl (gp rfl (gp rfl (gk rfl (gm rfl (gp rfl (gp rfl (gp rfl ?_))))))))))))))))
    refine gp rfl (gp rfl (gk rfl (gm rfl (gp rfl (gp rfl (gp rfl (gp rfl (gp rfl (gk rfl (gm rfl (gp rfl (gp rfl (gp rfl (gp rfl (gp rfl (gk rfl ?_))))))))))))))))
    refine ga rfl (nil (Run.slim [(4,.bool false)] ⟨rfl,trivial⟩ ?_))
    refine Run.retP rfl (.tmp rfl .nil) ?_
    cases hF
    exact Post.mk' ⟨rfl,rfl,rfl,rfl⟩ (h2.picks .nil) .nil
   refine gp rfl (gp rfl (gp rfl (gp rfl (gp rfl (gk rfl (gm rfl (gp rfl (gp rfl (gp rfl (gp rfl (gp rfl (gk rfl (gm rfl (gp rfl (gp rfl (gp rfl ?_))))))))))))))))
   refine gp rfl (gp rfl (gk rfl (gm rfl (gp rfl (gp rfl (gp rfl (gp rfl (gp rfl (gk rfl (gm rfl (gp rfl (gp rfl (gp rfl (gp rfl (gp rfl (gk rfl ?_))))))))))))))))
   refine gm rfl (gp rfl (gp rfl (gp rfl (gp rfl (gp rfl (gk rfl (ga rfl (nil (Run.slim [(4,.bool false)] ⟨rfl,trivial⟩ ?_)))))))))
   refine Run.retP rfl (.tmp rfl .nil) ?_
   cases hF
   exact Post.mk' ⟨rfl,rfl,rfl,rfl⟩ (h2.picks .nil) .nil
  refine gp rfl (gp rfl (gp rfl (gp rfl (gp rfl (gk rfl (gm rfl (gp rfl (gp rfl (gp rfl (gp rfl (gp rfl (gk rfl (gm rfl (gp rfl (gp rfl (gp rfl ?_))))))))))))))))
  refine gp rfl (gp rfl (gk rfl (gm rfl (gp rfl (gp rfl (gp rfl (gp rfl (gp rfl (gk rfl (gm rfl (gp rfl (gp rfl (gp rfl (gp rfl (gp rfl (gk rfl ?_))))))))))))))))
  refine gm rfl (gp rfl (gp rfl (gp rfl (gp rfl (gp rfl (gk rfl (gm rfl (gp rfl (gp rfl (gp rfl (gp rfl (gp rfl (gk rfl (ga rfl (nil (Run.slim [(4,.bool false)] ⟨rfl,trivial⟩ ?_))))))))))))))))
  refine Run.retP rfl (.tmp rfl .nil) ?_
  cases hF
  exact Post.mk' ⟨rfl,rfl,rfl,rfl⟩ (h2.picks .nil) .nil
 refine gp rfl (gp rfl (gp rfl (gp rfl (gp rfl (gk rfl (gm rfl (gp rfl (gp rfl (gp rfl (gp rfl (gp rfl (gk rfl (gm rfl (gp rfl (gp rfl (gp rfl ?_))))))))))))))))
 refine gp rfl (gp rfl (gk rfl (gm rfl (gp rfl (gp rfl (gp rfl (gp rfl (gp rfl (gk rfl (gm rfl (gp rfl (gp rfl (gp rfl (gp rfl (gp rfl (gk rfl ?_))))))))))))))))
 refine gm rfl (gp rfl (gp rfl (gp rfl (gp rfl (gp rfl (gk rfl (gm rfl (gp rfl (gp rfl (gp rfl (gp rfl (gp rfl (gk rfl (gm rfl (gp rfl (gp rfl ?_))))))))))))))))
 refine gp rfl (gp rfl (gp rfl (gk rfl (ga rfl (nil (Run.slim [(4,.bool false)] ⟨rfl,trivial⟩ ?_))))))
 refine Run.retP rfl (.tmp rfl .nil) ?_
 cases hF
 exact Post.mk' ⟨rfl,rfl,rfl,rfl⟩ (h2.picks .nil) .nil
end Lift
