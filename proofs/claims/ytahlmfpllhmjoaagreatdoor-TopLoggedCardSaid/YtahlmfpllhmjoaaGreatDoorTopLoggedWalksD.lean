import Derived.Test.YtahlmfpllhmjoaaGreatDoorTopLoggedWalksC
set_option linter.unusedVariables false
set_option linter.unusedSimpArgs false
namespace Lift
open Go Go.Proofs
open RunL (op sr nil gm ga gb gp gk dp du)
abbrev RqD1:Rep Conversion_:=Rep.iso (λ s:Conversion_=>(s.Form,s.Signed,s.M,s.B,s.K1,s.K2,s.Points,())) (Rep.prod (Rep.int .i64) (Rep.prod Rep.bool (Rep.prod (Rep.int .i64) (Rep.prod (Rep.int .i64) (Rep.prod (Rep.int .i64) (Rep.prod (Rep.int .i64) (Rep.prod (Rep.raw (α:=List Point_) (.slice none 0 0)) Rep.unit)))))))
abbrev GqD:Bool×Atom:=(false,.ptr (Rep.arr 6 (Rep.int .u8)) (.pointer (some ⟨0,0,none⟩)) ([0,2,4,7,9,11]))
theorem Qbc {fuel:Nat} {a0:List Qe} {a1_0:Int} {y:Int} (hF:Qp fuel a0 a1_0=some y) {w:World} {v0 v1_0:Value} :
  Spec Tryz.prog 241 [v0,.func (.func 210) #[] #[v1_0]].toArray w [(false,.val (Rep.slice Qe.rep) v0 a0),(false,.ptr (Rep.int .i64) v1_0 a1_0)] [] (λ v Γr Ωr Ωo=>v=.int .i64 y∧Γr=[]∧Ωr=[]∧Ωo=[]):=by
 refine Spec.of (L:=[(0,v0),(1,.func (.func 210) #[] #[v1_0])]) Tryz.func241 rfl ⟨rfl,rfl,trivial⟩ rfl (λ e h=>?_)
 unfold Qp at hF
 refine sr (ga rfl (nil (Run.seq (sr (gm rfl (op (OpS.len h Tryz.underlying167 rfl rfl rfl (V.at .z) ?_)))))))
 refine gm rfl (nil (Run.block (Run.slim [(0,v0),(1,.func (.func 210) #[] #[v1_0]),(7,.int .i64 (a0.length:Int)),(8,.int .i64 0)] ⟨rfl,rfl,rfl,rfl,trivial⟩ ?_)))
 refine Run.loopP (σ:=Int) (λ s_ L_ w_=>L_=[(0,v0),(1,.func (.func 210) #[] #[v1_0]),(7,.int .i64 (a0.length:Int)),(8,.int .i64 s_)]∧St e w_ [(false,.val (Rep.slice Qe.rep) v0 a0),(false,.ptr (Rep.int .i64) v1_0 a1_0)] []) hF ⟨rfl,(h.facts (.atm .z (.atm (.s .z) .nil))).picks .nil⟩ (λ k1 hk1 s1 _ w1 hI hF=>?_)
 obtain ⟨rfl,h1⟩:=hI
 refine sr (gb rfl (nil (Run.seq ?_)))
 refine Run.ite rfl hF (λ e1 hF=>?_) (λ e1 hF=>?_)
 ·refine Run.skip (Run.seq (Run.block (sr (gm rfl (ga rfl (nil (sr (gm rfl (gm rfl (gm rfl ?_))))))))))
  obtain ⟨x1,e2,hF⟩:=Qa hF
  refine op (OpS.iptr h1 Tryz.underlying167 ty200 rfl rfl rfl rfl (V.at .z) e2 (λ u1 h2=>?_))
  refine op (OpS.load h2 ty200 rfl rfl rfl .z (λ u2 h3=>?_))
  obtain ⟨y1,e3,hF⟩:=Qa hF
  refine op (OpS.callPF (fl:=[]) (cl:=[v1_0]) h3 Tryz.func210 rfl rfl rfl rfl rfl (vs:=[u2]) rfl (Qfv e3) (.cons (f:=false) (V.at .z) (.ptr (.s (.s (.s .z))) .nil)) ?_)
  rintro _ w2 _ _ _ ⟨rfl,rfl,rfl,rfl⟩ h4
  have h5:=h4 rfl rfl
  simp only [ca,na] at h5
  refine nil ?_
  refine Run.ite rfl hF (λ e4 hF=>?_) (λ e4 hF=>?_)
  ·refine sr (gm rfl (ga rfl (nil (Run.retP rfl (.tmp rfl .nil) ?_))))
   cases hF
   exact Post.mk' ⟨rfl,rfl,rfl,rfl⟩ (h5.picks .nil) .nil
  refine Run.skip (Run.endBlock (Run.reg (gb rfl (gm rfl (nil (Run.slim [(0,v0),(1,.func (.func 210) #[] #[v1_0]),(7,.int .i64 (a0.length:Int)),(8,.int .i64 (IntKind.i64.wrap (s1+1)))] ⟨rfl,rfl,rfl,rfl,trivial⟩ ?_))))))
  exact hk1 ((IntKind.i64.wrap (s1+1))) _ _ ⟨rfl,(h5.facts (.atm (.s (.s .z)) (.atm (.s (.s (.s .z))) .nil))).picks .nil⟩ hF
 refine Run.exit rfl ?_
 refine sr (ga rfl (nil (Run.retP rfl (.tmp rfl .nil) ?_)))
 cases hF
 exact Post.mk' ⟨rfl,rfl,rfl,rfl⟩ (h1.picks .nil) .nil
theorem Qba {fuel:Nat} {a0:List Qe} {a1_0:Int} {y:(List Qe)} (hF:Ql fuel a0 a1_0=some y) {w:World} {v0 v1_0:Value} :
  Spec Tryz.prog 209 [v0,.func (.func 210) #[] #[v1_0]].toArray w [(false,.ptr (Rep.int .i64) v1_0 a1_0)] [(false,.slice 200 Qe.rep v0 a0)] (λ v Γr Ωr Ωo=>∃ u0:Value,v=u0∧Γr=[]∧Ωr=[(false,(.slice 200 Qe.rep u0 y))]∧Ωo=[]):=by
 refine Spec.of (L:=[(0,v0),(1,.func (.func 210) #[] #[v1_0])]) Tryz.func209 rfl ⟨rfl,rfl,trivial⟩ rfl (λ e h=>?_)
 unfold Ql at hF
 refine sr (ga rfl (nil (sr (gm rfl (gm rfl ?_)))))
 obtain ⟨y1,e1,hF⟩:=Qa hF
 refine op (OpS.callP h Tryz.func241 rfl rfl rfl rfl (vs:=[v0,.func (.func 210) #[] #[v1_0]]) rfl (Qbc e1) (.own .z (.ptr .z .nil)) ?_)
 rintro _ w1 _ _ _ ⟨rfl,rfl,rfl,rfl⟩ h1
 have h2:=h1 rfl rfl
 simp only [ca,na] at h2
 refine ga rfl (nil (Run.seq (sr (gm rfl (gb rfl (nil ?_))))))
 refine Run.ite rfl hF (λ e2 hF=>?_) (λ e2 hF=>?_)
 ·refine sr (gm rfl (ga rfl (nil (Run.retP rfl (.tmp rfl .nil) ?_))))
  cases hF
  exact Post.mk' ⟨v0,rfl,rfl,rfl,rfl⟩ (h2.picks (.cons .z .nil)) .nil
 refine Run.skip (Run.seq (sr (gm rfl (gb rfl (ga rfl ?_)))))
 obtain ⟨x1,e3,hF⟩:=Qh hF
 refine RunL.name e3 ?_
 refine nil (Run.block (Run.slim [(0,v0),(1,.func (.func 210) #[] #[v1_0]),(5,.int .i64 y1),(6,.int .i64 x1)] ⟨rfl,rfl,rfl,rfl,trivial⟩ ?_))
 refine Run.loopP (σ:=(Int×Int×(List Qe))) (λ s_ L_ w_=>L_=[(0,v0),(1,.func (.func 210) #[] #[v1_0]),(5,.int .i64 s_.1),(6,.int .i64 s_.2.1)]∧St e w_ [(false,.ptr (Rep.int .i64) v1_0 a1_0)] [(false,.slice 200 Qe.rep v0 s_.2.2)]) hF ⟨rfl,(h2.facts (.atm .z .nil)).picks (.cons .z .nil)⟩ (λ k1 hk1 s1 _ w2 hI hF=>?_)
 obtain ⟨rfl,h3⟩:=hI
 refine Run.seq (sr (gm rfl (gm rfl (op (OpS.lenO h3 .z Tryz.underlying167 rfl rfl rfl ?_)))))
 refine gb rfl (nil ?_)
 refine Run.ite rfl hF (λ e4 hF=>?_) (λ e4 hF=>?_)
 ·refine Run.skip (Run.seq (Run.block (sr (gm rfl (gm rfl ?_)))))
  obtain ⟨x2,e5,hF⟩:=Qa hF
  refine op (OpS.iown h3 .z Tryz.underlying167 ty200 rfl rfl rfl rfl e5 ?_)
  refine op (OpS.loadO h3 .z (Qnl e5) PA.a (Get.arr e5) ty200 rfl rfl rfl (λ u1 h4=>?_))
  refine op (OpS.alloc h4 ti200 Qe.zr rfl rfl (λ u2 w3 h5=>?_))
  have h6:=(h5.pick .z).weak
  refine op (OpS.storeB (f':=false) h6 .z PA.z Put.id ty200 rfl rfl rfl (V.at .z) (.inr rfl) (λ w4 h7=>?_))
  refine nil (sr (gm rfl (op (OpS.loadB h7 .z PA.z Get.id ty200 rfl rfl rfl (λ u3 h8=>?_)))))
  obtain ⟨y2,e6,hF⟩:=Qa hF
  refine op (OpS.callPF (fl:=[]) (cl:=[v1_0]) h8 Tryz.func210 rfl rfl rfl rfl rfl (vs:=[u3]) rfl (Qfv e6) (.cons (f:=false) (V.at .z) (.ptr (.s (.s .z)) .nil)) ?_)
  rintro _ w5 _ _ _ ⟨rfl,rfl,rfl,rfl⟩ h9
  have h10:=h9 rfl rfl
  simp only [ca,na] at h10
  refine op (OpS.not rfl rfl rfl ?_)
  refine nil ?_
  refine Run.ite rfl hF (λ e7 hF=>?_) (λ e7 hF=>?_)
  ·refine sr (gm rfl (gm rfl (op (OpS.loadB h10 .z PA.z Get.id ty200 rfl rfl rfl (λ u4 h11=>?_)))))
   obtain ⟨x3,e8,hF⟩:=Qa hF
   refine op (OpS.iown h11 (.s .z) Tryz.underlying167 ty200 rfl rfl rfl rfl e8 ?_)
   obtain ⟨d1,e9,hF⟩:=Qh hF
   refine op (OpS.storeO (f':=false) h11 (.s .z) (Qnl e8) PA.a (Put.of (Put.arr e8) e9) ty200 rfl rfl rfl (V.at .z) (.inr rfl) (λ w6 h12=>?_))
   refine nil (Run.reg (gm rfl (gb rfl (ga rfl ?_))))
   obtain ⟨x4,e10,hF⟩:=Qh hF
   refine RunL.name e10 ?_
   refine nil (Run.endBlock (Run.reg (gm rfl (gb rfl (ga rfl ?_)))))
   obtain ⟨x5,e11,hF⟩:=Qh hF
   refine RunL.name e11 ?_
   refine nil (Run.slim [(0,v0),(1,.func (.func 210) #[] #[v1_0]),(5,.int .i64 x4),(6,.int .i64 x5)] ⟨rfl,rfl,rfl,rfl,trivial⟩ ?_)
   exact hk1 (x4,x5,d1) _ _ ⟨rfl,(h12.facts (.atm (.s (.s (.s .z))) .nil)).picks (.cons .z .nil)⟩ hF
  refine Run.skip (Run.endBlock (Run.reg (gm rfl (gb rfl (ga rfl ?_)))))
  obtain ⟨x6,e12,hF⟩:=Qh hF
  refine RunL.name e12 ?_
  refine nil (Run.slim [(0,v0),(1,.func (.func 210) #[] #[v1_0]),(5,.int .i64 s1.1),(6,.int .i64 x6)] ⟨rfl,rfl,rfl,rfl,trivial⟩ ?_)
  exact hk1 (s1.1,x6,s1.2.2) _ _ ⟨rfl,(h10.facts (.atm (.s (.s .z)) .nil)).picks (.cons (.s .z) .nil)⟩ hF
 refine Run.exit rfl ?_
 refine sr (gm rfl (gm rfl ?_))
 have h13:=(h3.pick .z).freeze
 obtain ⟨x7,e13,hF⟩:=Qa hF
 refine op (OpS.sub h13 Tryz.underlying167 ty200 rfl rfl rfl rfl rfl (V.at .z) e13 (λ u5 h14=>?_))
 cases hF
set_option maxHeartbeats 8000000 in set_option maxRecDepth 20000 in
theorem Qhf {fuel:Nat} {a0:Qb} {a1:Int} {ad:Qc} {y:Int×Qb×Qc} (hF:Qcl fuel a0 a1 ad=some y) {w:World} {v0 v0_0 qd v0_1 vd_0 vd_1:Value} :
  Spec Tryz.prog 156 [v0,.int .i64 a1].toArray w [] [(false,.box 169 (Qb.repW v0_0 v0_1) v0 a0),(false,.lnk qd v0_0 a0.d),(false,.slice 200 Qe.rep v0_1 a0.records),(false,.box 166 (Qc.repW vd_0 vd_1) qd ad),(false,.slice 5 (Rep.int .u8) vd_0 ad.bytes),(false,.slice 3 (Rep.int .i64) vd_1 ad.wear)] (λ v Γr Ωr Ωo=>∃ w0_0 w0_1 wd_0 wd_1:Value,v=.int .i64 y.1∧Γr=[]∧Ωr=[]∧Ωo=[(false,.box 169 (Qb.repW w0_0 w0_1) v0 y.2.1),(false,.lnk qd w0_0 y.2.1.d),(false,(.slice 200 Qe.rep w0_1 y.2.1.records)),(false,.box 166 (Qc.repW wd_0 wd_1) qd y.2.2),(false,(.slice 5 (Rep.int .u8) wd_0 y.2.2.bytes)),(false,(.slice 3 (Rep.int .i64) wd_1 y.2.2.wear))]):=by
 refine Spec.of (L:=[(0,v0),(1,.int .i64 a1)]) Tryz.func156 rfl ⟨rfl,rfl,trivial⟩ rfl (λ e h=>?_)
 unfold Qcl at hF
 refine sr (op (OpS.box (f':=true) h rfl rfl rfl V.int (λ u1 w1 h1=>?_)))
 refine ga rfl (nil (sr (gm rfl (op (OpS.nchk h1 (.s .z) rfl rfl rfl ?_)))))
 refine op (OpS.fbox (o3:=4) h1 (.s .z) PA.z Qer rfl rfl rfl rfl ?_)
 refine op (OpS.loadBi h1 (.s .z) PA.a (GetS.ok (GetS.iso _ (GetS.there (GetS.there (GetS.there (GetS.there (GetS.here GetS.id))))))) ty3 rfl rfl rfl ?_)
 refine gb rfl (ga rfl ?_)
 obtain ⟨x1,e1,hF⟩:=Qh hF
 refine RunL.name e1 ?_
 refine nil (Run.seq (sr (gm rfl (gb rfl (nil ?_)))))
 refine Run.ite rfl hF (λ e2 hF=>?_) (λ e2 hF=>?_)
 ·refine sr (ga rfl (nil (Run.retP rfl (.tmp rfl .nil) ?_)))
  cases hF
  exact Post.mk' ⟨v0_0,v0_1,vd_0,vd_1,rfl,rfl,rfl,rfl⟩ (h1.picks (.cons (.s .z) (.cons (.s .z) (.cons (.s .z) (.cons (.s .z) (.cons (.s .z) (.cons (.s .z) .nil))))))) .nil
 refine Run.skip (Run.seq ?_)
 have h2:=h1.picks (.cons (.s .z) (.cons .z (.cons .z (.cons .z (.cons .z (.cons .z (.cons .z .nil)))))))
 obtain ⟨e3,hF⟩:=Qr hF
 refine Run.drawV (Ωs:=[(true,.box 3 (Rep.int .i64) u1 a1),(false,.lnk qd v0_0 a0.d),(false,.slice 200 Qe.rep v0_1 a0.records),(false,.box 166 (Qc.repW vd_0 vd_1) qd ad),(false,.slice 5 (Rep.int .u8) vd_0 ad.bytes),(false,.slice 3 (Rep.int .i64) vd_1 ad.wear)]) [.k 17 v0,.kr 18 v0 [0],.kr 19 (padd v0 1) [0],.kr 20 (.int .i64 a0.first) [0],.k 21 (.int .i64 x1),.k 22 (.int .i64 (IntKind.i64.wrap (x1-1))),.k 23 v0,.kr 24 v0 [0],.kr 25 (padd v0 2) [0],.kr 26 (.int .i64 a0.sectors) [0],.k 27 (.int .i64 (Int.tmod (IntKind.i64.wrap (x1-1)) a0.sectors))] [[],[0],[1],[2],[],[4],[],[6],[7],[8],[5,9]] [[(false,.box 169 (Qb.repW v0_0 v0_1) v0 a0)]] [0,1,2,3,4,5,6,7,8,9,10,11] Qi rfl rfl rfl h2 (.cons ?_ (.cons ?_ (.cons ?_ (.cons ?_ (.cons ?_ (.cons ?_ (.cons ?_ (.cons ?_ (.cons ?_ (.cons ?_ (.cons ?_ .nil))))))))))) (λ q1 w hq1 h=>?_)
 ·intro q1 w Γx Ωx h
  refine OpS.mv rfl rfl rfl ?_
  exact du h
 ·intro q1 w Γx Ωx h
  refine OpS.nchk h .z rfl rfl rfl ?_
  exact du h
 ·intro q1 w Γx Ωx h
  refine OpS.fbox (o3:=1) h .z PA.z Qte rfl rfl rfl rfl ?_
  exact du h
 ·intro q1 w Γx Ωx h
  refine OpS.loadBi h .z PA.a (GetS.ok (GetS.iso _ (GetS.there (GetS.here GetS.id)))) ty3 rfl rfl rfl ?_
  exact du h
 ·intro q1 w Γx Ωx h
  refine OpS.mv rfl rfl rfl ?_
  exact du h
 ·intro q1 w Γx Ωx h
  refine OpS.bin rfl rfl rfl rfl rfl ?_
  exact du h
 ·intro q1 w Γx Ωx h
  refine OpS.mv rfl rfl rfl ?_
  exact du h
 ·intro q1 w Γx Ωx h
  refine OpS.nchk h .z rfl rfl rfl ?_
  exact du h
 ·intro q1 w Γx Ωx h
  refine OpS.fbox (o3:=2) h .z PA.z Qkf rfl rfl rfl rfl ?_
  exact du h
 ·intro q1 w Γx Ωx h
  refine OpS.loadBi h .z PA.a (GetS.ok (GetS.iso _ (GetS.there (GetS.there (GetS.here GetS.id))))) ty3 rfl rfl rfl ?_
  exact du h
 ·intro q1 w Γx Ωx h
  refine OpS.rem rfl rfl rfl rfl e3 ?_
  exact du h
 have h3:=h
 refine gb rfl (ga rfl ?_)
 obtain ⟨x2,e4,hF⟩:=Qh hF
 refine RunL.name e4 ?_
 refine nil (sr (gm rfl (gm rfl (op (OpS.nchk h3 .z rfl rfl rfl ?_)))))
 refine op (OpS.fbox (o3:=0) h3 .z PA.z Qfn rfl rfl rfl rfl ?_)
 obtain ⟨e5,hF⟩:=Qr hF
 obtain ⟨e6,h4⟩:=St.attach (h3.pick (.s (.s .z))) e5
 subst e6
 refine op (OpS.loadR h4 (.s .z) PA.a (GetS.ok (GetS.iso _ (GetS.here GetS.id))) ty31 rfl rfl rfl rfl rfl ?_)
 obtain ⟨y1,e7,hF⟩:=Qa hF
 have h5:=h4.front (.cons (.s (.s (.s (.s .z)))) (.cons (.s (.s (.s (.s .z)))) (.cons (.s (.s (.s (.s .z)))) .nil)))
 refine op (OpS.callO h5 Tryz.func71 rfl rfl rfl rfl (vs:=[qd]) rfl (Qbf e7) rfl .nil ?_)
 rintro _ w2 _ _ _ ⟨rfl,rfl,rfl,rfl⟩ h6
 have h7:=h6
 simp only [ca,na] at h7
 refine gb rfl (ga rfl ?_)
 obtain ⟨x3,e8,hF⟩:=Qh hF
 refine RunL.name e8 ?_
 refine nil (Run.seq ?_)
 obtain ⟨y2,e9,hF⟩:=Qa hF
 obtain ⟨y3,e10,hF⟩:=Qa hF
 refine Run.drawV (Ωs:=[(true,.box 3 (Rep.int .i64) u1 a1),(false,.slice 200 Qe.rep v0_1 a0.records)]) [.k 37 v0,.kr 38 v0 [4],.kr 39 (padd v0 0) [4],.kr 40 qd [4,3],.k 41 (.int .i64 x3),.k 42 v0,.kr 43 v0 [4],.kr 44 (padd v0 0) [4],.kr 45 qd [4,3],.kr 46 (.int .i64 y2) [0,1,2],.fr 47 (λ u_=>[(true,.eqv u_ (.tuple #[(tcomp u_ 0),.int .i64 y3.2])),(true,.val (Rep.slice (Rep.int .u8)) (tcomp u_ 0) y3.1)]) [0,1,2],.f 36 (λ u_=>[(true,.eqv u_ (.tuple #[(tcomp u_ 0),.int .i64 y3.2])),(true,.val (Rep.slice (Rep.int .u8)) (tcomp u_ 0) y3.1)]),.f 48 (λ u_=>[(true,.val (Rep.slice (Rep.int .u8)) u_ y3.1)]),.k 49 (.int .i64 y3.2),.f 8 (λ u_=>[(true,.val (Rep.slice (Rep.int .u8)) u_ y3.1)])] [[],[0],[1],[2],[],[],[5],[6],[7],[8],[3,4,9],[10],[11],[11],[12]] [[(false,.box 166 (Qc.repW vd_0 vd_1) qd ad)],[(false,.slice 5 (Rep.int .u8) vd_0 ad.bytes)],[(false,.slice 3 (Rep.int .i64) vd_1 ad.wear)],[(false,.lnk qd qd a0.d)],[(false,.box 169 (Qb.repW qd v0_1) v0 a0)]] [0,1,2,3,4,5,6,7,8,9,10,11,12,13,14,15,16,17,18,19] Qi rfl rfl rfl h7 (.cons ?_ (.cons ?_ (.cons ?_ (.cons ?_ (.cons ?_ (.cons ?_ (.cons ?_ (.cons ?_ (.cons ?_ (.cons ?_ (.cons ?_ (.cons ?_ (.cons ?_ (.cons ?_ (.cons ?_ .nil))))))))))))))) (λ q2 w hq2 h=>?_)
 ·intro q2 w Γx Ωx h
  refine OpS.mv rfl rfl rfl ?_
  exact du h
 ·intro q2 w Γx Ωx h
  refine OpS.nchk h .z rfl rfl rfl ?_
  exact du h
 ·intro q2 w Γx Ωx h
  refine OpS.fbox (o3:=0) h .z PA.z Qfn rfl rfl rfl rfl ?_
  exact du h
 ·intro q2 w Γx Ωx h
  refine OpS.loadR h .z PA.a (GetS.ok (GetS.iso _ (GetS.here GetS.id))) ty31 rfl rfl rfl rfl rfl ?_
  exact du h
 ·intro q2 w Γx Ωx h
  refine OpS.mv rfl rfl rfl ?_
  exact du h
 ·intro q2 w Γx Ωx h
  refine OpS.mv rfl rfl rfl ?_
  exact du h
 ·intro q2 w Γx Ωx h
  refine OpS.nchk h .z rfl rfl rfl ?_
  exact du h
 ·intro q2 w Γx Ωx h
  refine OpS.fbox (o3:=0) h .z PA.z Qfn rfl rfl rfl rfl ?_
  exact du h
 ·intro q2 w Γx Ωx h
  refine OpS.loadR h .z PA.a (GetS.ok (GetS.iso _ (GetS.here GetS.id))) ty31 rfl rfl rfl rfl rfl ?_
  exact du h
 ·intro q2 w Γx Ωx h
  have h15:=h.front (.cons .z (.cons .z (.cons .z .nil)))
  refine OpS.callO h15 Tryz.func71 rfl rfl rfl rfl (vs:=[qd]) rfl (Qbf e9) rfl .nil ?_
  rintro _ w5 _ _ _ ⟨rfl,rfl,rfl,rfl⟩ h16
  have h17:=h16
  simp only [ca,na] at h17
  exact ⟨undef,rfl,trivial,h17⟩
 ·intro q2 w Γx Ωx h
  have h18:=h.front (.cons .z (.cons .z (.cons .z .nil)))
  refine OpS.callO h18 Tryz.func70 rfl rfl rfl rfl (vs:=[qd,.int .i64 x3,.int .i64 y2]) rfl (Qhc e10) rfl .nil ?_
  rintro _ w6 _ _ _ ⟨u3,rfl,rfl,rfl,rfl⟩ h19
  have h20:=h19
  simp only [ca,na] at h20
  have h21:=h20.freeze
  exact ⟨_,rfl,trivial,St.eqv rfl h21⟩
 ·intro q2 w Γx Ωx h
  refine OpS.mv rfl rfl rfl ?_
  exact ⟨_,rfl,trivial,((h.dup (.s .z)).dup (.s .z))⟩
 ·intro q2 w Γx Ωx h
  refine OpS.extT h .z rfl rfl rfl rfl ?_
  exact ⟨_,rfl,trivial,(h.dup (.s .z))⟩
 ·intro q2 w Γx Ωx h
  refine OpS.extT h .z rfl rfl rfl rfl ?_
  exact du h
 ·intro q2 w Γx Ωx h
  refine OpS.as rfl rfl rfl ?_
  exact ⟨_,rfl,trivial,(h.dup .z)⟩
 have h22:=h
 refine ga rfl (nil (Run.slim [(9,.int .i64 y3.2),(8,(q2 14)),(7,.int .i64 x3),(6,.int .i64 x2),(5,.int .i64 x1),(3,u1),(0,v0)] ⟨rfl,rfl,rfl,rfl,rfl,rfl,rfl,trivial⟩ ?_))
 refine Run.seq (sr (gm rfl (gb rfl (gm rfl ?_))))
 refine RunL.join (σ:=Bool) (λ s_ L_ w_=>L_=[(0,v0),(3,u1),(5,.int .i64 x1),(6,.int .i64 x2),(7,.int .i64 x3),(9,.int .i64 y3.2),(56,.bool s_)]∧St e w_ [] [(false,.box 169 (Qb.repW qd v0_1) v0 a0),(true,.box 3 (Rep.int .i64) u1 a1),(false,.box 166 (Qc.repW vd_0 vd_1) qd ad),(false,.lnk qd qd a0.d),(false,.slice 200 Qe.rep v0_1 a0.records),(false,.slice 5 (Rep.int .u8) vd_0 ad.bytes),(false,.slice 3 (Rep.int .i64) vd_1 ad.wear)]) hF (λ s1 _ w7 hI hF=>?_) (λ j1 hj1 hF=>?_)
 ·obtain ⟨rfl,h23⟩:=hI
  refine Run.join (σ:=(Int×Qc)) (λ s_ L_ w_=>∃ u0_ u1_:Value,L_=[(0,v0),(3,u1),(5,.int .i64 x1),(7,.int .i64 x3),(9,.int .i64 s_.1)]∧St e w_ [] [(false,.box 169 (Qb.repW qd v0_1) v0 a0),(true,.box 3 (Rep.int .i64) u1 a1),(false,.box 166 (Qc.repW u0_ u1_) qd s_.2),(false,.lnk qd qd a0.d),(false,.slice 200 Qe.rep v0_1 a0.records),(false,.slice 5 (Rep.int .u8) u0_ s_.2.bytes),(false,.slice 3 (Rep.int .i64) u1_ s_.2.wear)]) hF (λ s2 _ w8 hI hF=>?_) (λ j2 hj2 hF=>?_)
  ·obtain ⟨u4,u5,rfl,h24⟩:=hI
   refine Run.seq (sr (gm rfl (gb rfl (nil ?_))))
   refine Run.join (σ:=(Int×Qc)) (λ s_ L_ w_=>∃ u0_ u1_:Value,L_=[(0,v0),(3,u1),(5,.int .i64 x1),(7,.int .i64 x3),(9,.int .i64 s_.1)]∧St e w_ [] [(false,.box 169 (Qb.repW qd v0_1) v0 a0),(true,.box 3 (Rep.int .i64) u1 a1),(false,.box 166 (Qc.repW u0_ u1_) qd s_.2),(false,.lnk qd qd a0.d),(false,.slice 200 Qe.rep v0_1 a0.records),(false,.slice 5 (Rep.int .u8) u0_ s_.2.bytes),(false,.slice 3 (Rep.int .i64) u1_ s_.2.wear)]) hF (λ s3 _ w9 hI hF=>?_) (λ j3 hj3 hF=>?_)
   ·obtain ⟨u6,u7,rfl,h25⟩:=hI
    refine Run.seq (sr (gm rfl (gb rfl (nil ?_))))
    refine Run.join (σ:=(Int×Qc)) (λ s_ L_ w_=>∃ u0_ u1_:Value,L_=[(0,v0),(3,u1),(5,.int .i64 x1),(9,.int .i64 s_.1)]∧St e w_ [] [(false,.box 169 (Qb.repW qd v0_1) v0 a0),(true,.box 3 (Rep.int .i64) u1 a1),(false,.box 166 (Qc.repW u0_ u1_) qd s_.2),(false,.lnk qd qd a0.d),(false,.slice 200 Qe.rep v0_1 a0.records),(false,.slice 5 (Rep.int .u8) u0_ s_.2.bytes),(false,.slice 3 (Rep.int .i64) u1_ s_.2.wear)]) hF (λ s4 _ w10 hI hF=>?_) (λ j4 hj4 hF=>?_)
    ·obtain ⟨u8,u9,rfl,h26⟩:=hI
     refine Run.seq (sr (gm rfl (gb rfl (nil ?_))))
     refine Run.ite rfl hF (λ e11 hF=>?_) (λ e11 hF=>?_)
     ·refine Run.seq ?_
      obtain ⟨d1,e12,hF⟩:=Qh hF
      obtain ⟨d2,e13,hF⟩:=Qh hF
      refine Run.drawV (Ωs:=[(false,.box 166 (Qc.repW u8 u9) qd s4.2),(false,.lnk qd qd a0.d),(false,.slice 200 Qe.rep v0_1 a0.records),(false,.slice 5 (Rep.int .u8) u8 s4.2.bytes),(false,.slice 3 (Rep.int .i64) u9 s4.2.wear)]) [.k 101 v0,.k 102 v0,.k 103 v0,.k 104 (.int .i64 x1),.kr 105 (.int .i64 a1) [1],⟨some 106,some (v0),λ _=>[],λ ds_ u_=>[],[],[(0,[7,6,5])],none⟩,⟨some 107,some ((padd v0 4)),λ _=>[],λ ds_ u_=>[],[],[(0,[7,6])],none⟩,⟨none,some undef,λ _=>[],λ ds_ u_=>[(false,.box 169 (Qb.repW qd v0_1) v0 d1)],[0],[],none⟩,⟨some 108,some (v0),λ _=>[],λ ds_ u_=>[],[],[(9,[10,9,8])],none⟩,⟨some 109,some ((padd v0 5)),λ _=>[],λ ds_ u_=>[],[],[(9,[10,9])],none⟩,⟨none,some undef,λ _=>[],λ ds_ u_=>[(false,.box 169 (Qb.repW qd v0_1) v0 d2)],[9],[],none⟩] [[],[],[],[],[],[0],[5],[6,3],[1],[8],[9,4]] [[(false,.box 169 (Qb.repW qd v0_1) v0 a0)],[(true,.box 3 (Rep.int .i64) u1 a1)]] [1,2,3,4,5,6,7,8,10,11,12] Qi rfl rfl rfl h26 (.cons ?_ (.cons ?_ (.cons ?_ (.cons ?_ (.cons ?_ (.cons ?_ (.cons ?_ (.cons ?_ (.cons ?_ (.cons ?_ (.cons ?_ .nil))))))))))) (λ q3 w hq3 h=>?_)
      ·intro q3 w Γx Ωx h
       refine OpS.mv rfl rfl rfl ?_
       exact du h
      ·intro q3 w Γx Ωx h
       refine OpS.mv rfl rfl rfl ?_
       exact du h
      ·intro q3 w Γx Ωx h
       refine OpS.mv rfl rfl rfl ?_
       exact du h
      ·intro q3 w Γx Ωx h
       refine OpS.mv rfl rfl rfl ?_
       exact du h
      ·intro q3 w Γx Ωx h
       refine OpS.loadBi h .z PA.z Get.id ty3 rfl rfl rfl ?_
       exact du h
      ·intro q3 w Γx Ωx h
       refine OpS.nchk h .z rfl rfl rfl ?_
       exact du h
      ·intro q3 w Γx Ωx h
       refine OpS.fbox (o3:=4) h .z PA.z Qer rfl rfl rfl rfl ?_
       exact du h
      ·intro q3 w Γx Ωx h
       refine OpS.storeC (f':=true) (fr:=(Rep.int .i64)) (r':=(Qb.repW qd v0_1)) (x':=d1) h .z PA.a (Chg.of (x':={ a0 with newest:=x1 }) (Chg.iso _ (Chg.there (Chg.there (Chg.there (Chg.there (Chg.here (Chg.id (by rfl)))))))) e12) ty3 rfl rfl rfl V.int (.inr rfl) (λ w13 h29=>?_)
       exact ⟨undef,trivial,trivial,h29⟩
      ·intro q3 w Γx Ωx h
       refine OpS.nchk h .z rfl rfl rfl ?_
       exact du h
      ·intro q3 w Γx Ωx h
       refine OpS.fbox (o3:=5) h .z PA.z Qom rfl rfl rfl rfl ?_
       exact du h
      ·intro q3 w Γx Ωx h
       refine OpS.storeC (f':=true) (fr:=(Rep.int .i64)) (r':=(Qb.repW qd v0_1)) (x':=d2) h .z PA.a (Chg.of (x':={ d1 with tail:=a1 }) (Chg.iso _ (Chg.there (Chg.there (Chg.there (Chg.there (Chg.there (Chg.here (Chg.id (by rfl))))))))) e13) ty3 rfl rfl rfl V.int (.inr rfl) (λ w14 h30=>?_)
       exact ⟨undef,trivial,trivial,h30⟩
      have h31:=h
      refine op (OpS.nchk h31 (.s .z) rfl rfl rfl ?_)
      refine op (OpS.fbox (o3:=6) h31 (.s .z) PA.z Qiz rfl rfl rfl rfl ?_)
      obtain ⟨d3,e14,hF⟩:=Qh hF
      refine op (OpS.storeC (f':=true) (fr:=(Rep.int .i64)) (r':=(Qb.repW qd v0_1)) (x':=d3) h31 (.s .z) PA.a (Chg.of (x':={ d2 with used:=0 }) (Chg.iso _ (Chg.there (Chg.there (Chg.there (Chg.there (Chg.there (Chg.there (Chg.here (Chg.id (by rfl)))))))))) e14) ty3 rfl rfl rfl V.int (.inr rfl) (λ w15 h32=>?_))
      refine nil (Run.reg (gm rfl (gm rfl (op (OpS.nchk h32 .z rfl rfl rfl ?_)))))
      refine op (OpS.fbox (o3:=8) h32 .z PA.z Qgv rfl rfl rfl rfl ?_)
      refine op (OpS.loadR h32 .z PA.a (GetS.ok (GetS.iso _ (GetS.there (GetS.there (GetS.there (GetS.there (GetS.there (GetS.there (GetS.there (GetS.there (GetS.here GetS.id))))))))))) ty167 rfl rfl rfl rfl rfl ?_)
      refine op (OpS.mkf (fl:=[]) (cl:=[u1]) rfl rfl rfl rfl ?_)
      have h33:=(h32.pick (.s .z)).freezeBox
      obtain ⟨y4,e15,hF⟩:=Qa hF
      have h34:=h33.front (.cons (.s (.s (.s .z))) .nil)
      refine op (OpS.callO h34 Tryz.func209 rfl rfl rfl rfl (vs:=[v0_1,.func (.func 210) #[] #[u1]]) rfl (Qba e15) rfl (.ptr .z .nil) ?_)
      rintro u10 w16 _ _ _ ⟨_,rfl,rfl,rfl,rfl⟩ h35
      have h36:=h35
      simp only [ca,na] at h36
      refine op (OpS.nchk h36 (.s .z) rfl rfl rfl ?_)
      refine op (OpS.fbox (o3:=8) h36 (.s .z) PA.z Qgv rfl rfl rfl rfl ?_)
      refine op (OpS.storeC (f':=false) (fr:=(Rep.raw u10)) (r':=(Qb.repW qd u10)) (x':=d3) h36 (.s .z) PA.a (Chg.iso _ (Chg.there (Chg.there (Chg.there (Chg.there (Chg.there (Chg.there (Chg.there (Chg.there (Chg.here (Chg.id (by rfl)))))))))))) (Ty.like ty167 (by rfl) (by rfl)) rfl rfl rfl (V.raw (f:=false) (St.own1 h36 .z) d3.records) (.inr rfl) (λ w17 h37=>?_))
      refine nil (sr (gm rfl (ga rfl (nil ?_))))
      have h38:=St.boxJ (r':=(Qb.repW qd u10)) (x':={ { d3 with d:=a0.d } with records:=y4 }) (h37.pick .z) (λ _ _ hs_=>(Jn.iso _ (Jn.prod Jn.same (Jn.prod Jn.refl (Jn.prod Jn.refl (Jn.prod Jn.refl (Jn.prod Jn.refl (Jn.prod Jn.refl (Jn.prod Jn.refl (Jn.prod Jn.refl (Jn.prod Jn.same Jn.refl)))))))))))
      refine Run.retP rfl (.tmp rfl .nil) ?_
      cases hF
      exact Post.mk' ⟨qd,u10,u8,u9,rfl,rfl,rfl,rfl⟩ (h38.picks (.cons .z (.cons (.s (.s .z)) (.cons .z (.cons .z (.cons .z (.cons .z .nil))))))) .nil
     refine Run.skip (sr (gm rfl (ga rfl (nil (Run.retP rfl (.tmp rfl .nil) ?_)))))
     cases hF
     exact Post.mk' ⟨qd,v0_1,u8,u9,rfl,rfl,rfl,rfl⟩ (h26.picks (.cons .z (.cons (.s (.s .z)) (.cons (.s (.s .z)) (.cons (.s .z) (.cons (.s .z) (.cons (.s .z) .nil))))))) .nil
    refine Run.ite rfl hF (λ e16 hF=>?_) (λ e16 hF=>?_)
    ·refine Run.reg (gm rfl (op (OpS.nchk h25 .z rfl rfl rfl ?_)))
     refine op (OpS.fbox (o3:=0) h25 .z PA.z Qfn rfl rfl rfl rfl ?_)
     refine op (OpS.loadR h25 .z PA.a (GetS.ok (GetS.iso _ (GetS.here GetS.id))) ty31 rfl rfl rfl rfl rfl ?_)
     refine gm rfl (gb rfl (op (OpS.lit (r:=(Rep.int .u8)) (f:=true) h25 Tryz.underlying24 ti5 rfl rfl rfl rfl rfl (.cons rfl V.int .nil) rfl rfl (λ u11 w18 h39=>?_))))
     obtain ⟨y5,e17,hF⟩:=Qa hF
     have h40:=h39.front (.cons (.s (.s .z)) (.cons (.s (.s (.s (.s .z)))) (.cons (.s (.s (.s (.s .z)))) .nil)))
     refine op (OpS.callO h40 Tryz.func88 rfl rfl rfl rfl (vs:=[qd,.int .i64 (IntKind.i64.wrap (x3+10)),u11]) rfl (Qdz e17) rfl (.cons (f:=true) (V.at .z) .nil) ?_)
     rintro _ w19 _ _ _ ⟨u12,u13,rfl,rfl,rfl,rfl⟩ h41
     have h42:=h41
     simp only [ca,na] at h42
     refine ga rfl (nil (Run.slim [(0,v0),(3,u1),(5,.int .i64 x1),(9,.int .i64 y5.1)] ⟨rfl,rfl,rfl,rfl,trivial⟩ ?_))
     exact hj4 (y5.1,y5.2) _ _ ⟨u12,u13,rfl,(h42.facts .nil).picks (.cons (.s (.s (.s .z))) (.cons (.s (.s (.s .z))) (.cons .z (.cons (.s (.s .z)) (.cons (.s (.s .z)) (.cons .z (.cons .z .nil)))))))⟩ hF
    refine Run.skip (Run.slim [(0,v0),(3,u1),(5,.int .i64 x1),(9,.int .i64 s3.1)] ⟨rfl,rfl,rfl,rfl,trivial⟩ ?_)
    exact hj4 (s3.1,s3.2) _ _ ⟨u6,u7,rfl,(h25.facts .nil).picks (.cons .z (.cons .z (.cons .z (.cons .z (.cons .z (.cons .z (.cons .z .nil)))))))⟩ hF
   refine Run.ite rfl hF (λ e18 hF=>?_) (λ e18 hF=>?_)
   ·have h43:=h24.picks (.cons .z (.cons .z (.cons (.s .z) (.cons .z (.cons .z (.cons .z (.cons .z .nil)))))))
    obtain ⟨y6,e19,hF⟩:=Qa hF
    obtain ⟨y7,e20,hF⟩:=Qa hF
    obtain ⟨x4,e21,hF⟩:=Qa hF
    obtain ⟨x5,e22,hF⟩:=Qa hF
    refine Run.drawV (Ωs:=[(false,.box 166 (Qc.repW u4 u5) qd s2.2),(false,.slice 200 Qe.rep v0_1 a0.records),(false,.slice 5 (Rep.int .u8) u4 s2.2.bytes),(false,.slice 3 (Rep.int .i64) u5 s2.2.wear)]) [.k 65 v0,.kr 66 v0 [0],.kr 67 (padd v0 0) [0],.kr 68 qd [0,2],.k 69 (.int .i64 x3),.k 70 (.int .i64 x1),⟨some 71,none,λ u_=>[],λ ds_ u_=>[(true,.slice 5 (Rep.int .u8) u_ y6)],[],[],none⟩,.kr 72 (.int .i64 a1) [1],.f 73 (λ u_=>[(true,.val (Rep.slice (Rep.int .u8)) u_ y7)]),⟨some 74,none,λ u_=>[],λ ds_ u_=>[(true,.slice 5 (Rep.int .u8) u_ x4)],[9],[],none⟩,.k 75 v0,.kr 76 v0 [0],.kr 77 (padd v0 7) [0],.kr 78 (.int .u16 a0.next) [0],.k 79 (.int .u8 (IntKind.u8.wrap a0.next)),.k 80 v0,.kr 81 v0 [0],.kr 82 (padd v0 7) [0],.kr 83 (.int .u16 a0.next) [0],.k 84 (.int .u16 (bShr .u16 a0.next 8)),.k 85 (.int .u8 (IntKind.u8.wrap (bShr .u16 a0.next 8))),.f 86 (λ u_=>[(true,.val (Rep.slice (Rep.int .u8)) u_ ([(IntKind.u8.wrap a0.next),(IntKind.u8.wrap (bShr .u16 a0.next 8))]))]),⟨some 87,none,λ u_=>[],λ ds_ u_=>[(true,.slice 5 (Rep.int .u8) u_ x5)],[12],[],none⟩] [[],[0],[1],[2],[],[],[5],[],[7],[6,8],[],[10],[11],[12],[13],[],[15],[16],[17],[18],[19],[14,20],[9,21]] [[(false,.box 169 (Qb.repW qd v0_1) v0 a0)],[(true,.box 3 (Rep.int .i64) u1 a1)],[(false,.lnk qd qd a0.d)]] [0,1,2,3,4,5,6,7,8,10,11,13,14,15,16,17,18,19,20,21,22,23,24,25] Qi rfl rfl rfl h43 (.cons ?_ (.cons ?_ (.cons ?_ (.cons ?_ (.cons ?_ (.cons ?_ (.cons ?_ (.cons ?_ (.cons ?_ (.cons ?_ (.cons ?_ (.cons ?_ (.cons ?_ (.cons ?_ (.cons ?_ (.cons ?_ (.cons ?_ (.cons ?_ (.cons ?_ (.cons ?_ (.cons ?_ (.cons ?_ (.cons ?_ .nil))))))))))))))))))))))) (λ q4 w hq4 h=>?_)
    ·intro q4 w Γx Ωx h
     refine OpS.mv rfl rfl rfl ?_
     exact du h
    ·intro q4 w Γx Ωx h
     refine OpS.nchk h .z rfl rfl rfl ?_
     exact du h
    ·intro q4 w Γx Ωx h
     refine OpS.fbox (o3:=0) h .z PA.z Qfn rfl rfl rfl rfl ?_
     exact du h
    ·intro q4 w Γx Ωx h
     refine OpS.loadR h .z PA.a (GetS.ok (GetS.iso _ (GetS.here GetS.id))) ty31 rfl rfl rfl rfl rfl ?_
     exact du h
    ·intro q4 w Γx Ωx h
     refine OpS.mv rfl rfl rfl ?_
     exact du h
    ·intro q4 w Γx Ωx h
     refine OpS.mv rfl rfl rfl ?_
     exact du h
    ·intro q4 w Γx Ωx h
     refine OpS.callP h Tryz.func208 rfl rfl rfl rfl (vs:=[.int .i64 x1]) rfl (Qic e19) .nil ?_
     rintro u w25 _ _ _ ⟨_,rfl,rfl,rfl,rfl⟩ h52
     have h53:=h52 rfl rfl
     simp only [ca,na] at h53
     exact ⟨u,rfl,trivial,h53⟩
    ·intro q4 w Γx Ωx h
     refine OpS.loadBi h .z PA.z Get.id ty3 rfl rfl rfl ?_
     exact du h
    ·intro q4 w Γx Ωx h
     refine OpS.callP h Tryz.func208 rfl rfl rfl rfl (vs:=[.int .i64 a1]) rfl (Qic e20) .nil ?_
     rintro u w26 _ _ _ ⟨_,rfl,rfl,rfl,rfl⟩ h54
     have h55:=h54 rfl rfl
     simp only [ca,na] at h55
     have h56:=h55.freeze
     exact ⟨u,rfl,trivial,h56⟩
    ·intro q4 w Γx Ωx h
     refine OpS.app (f':=true) h .z Tryz.underlying24 ti5 rfl rfl rfl rfl rfl rfl rfl (V.at .z) (.inr Pure.int) e21 (λ u w27 h57=>?_)
     exact ⟨u,rfl,trivial,h57⟩
    ·intro q4 w Γx Ωx h
     refine OpS.mv rfl rfl rfl ?_
     exact du h
    ·intro q4 w Γx Ωx h
     refine OpS.nchk h .z rfl rfl rfl ?_
     exact du h
    ·intro q4 w Γx Ωx h
     refine OpS.fbox (o3:=7) h .z PA.z Qjd rfl rfl rfl rfl ?_
     exact du h
    ·intro q4 w Γx Ωx h
     refine OpS.loadBi h .z PA.a (GetS.ok (GetS.iso _ (GetS.there (GetS.there (GetS.there (GetS.there (GetS.there (GetS.there (GetS.there (GetS.here GetS.id)))))))))) ty49 rfl rfl rfl ?_
     exact du h
    ·intro q4 w Γx Ωx h
     refine OpS.conv Tryz.underlying49 Tryz.underlying5 rfl rfl rfl ?_
     exact du h
    ·intro q4 w Γx Ωx h
     refine OpS.mv rfl rfl rfl ?_
     exact du h
    ·intro q4 w Γx Ωx h
     refine OpS.nchk h .z rfl rfl rfl ?_
     exact du h
    ·intro q4 w Γx Ωx h
     refine OpS.fbox (o3:=7) h .z PA.z Qjd rfl rfl rfl rfl ?_
     exact du h
    ·intro q4 w Γx Ωx h
     refine OpS.loadBi h .z PA.a (GetS.ok (GetS.iso _ (GetS.there (GetS.there (GetS.there (GetS.there (GetS.there (GetS.there (GetS.there (GetS.here GetS.id)))))))))) ty49 rfl rfl rfl ?_
     exact du h
    ·intro q4 w Γx Ωx h
     refine OpS.shr rfl rfl rfl rfl (by decide) ?_
     exact du h
    ·intro q4 w Γx Ωx h
     refine OpS.conv Tryz.underlying49 Tryz.underlying5 rfl rfl rfl ?_
     exact du h
    ·intro q4 w Γx Ωx h
     refine OpS.lit (r:=(Rep.int .u8)) (f:=true) h Tryz.underlying24 ti5 rfl rfl rfl rfl rfl (.cons rfl V.int (.cons rfl V.int .nil)) rfl rfl (λ u w28 h58=>?_)
     exact ⟨u,rfl,trivial,h58⟩
    ·intro q4 w Γx Ωx h
     refine OpS.app (f':=true) h .z Tryz.underlying24 ti5 rfl rfl rfl rfl rfl rfl rfl (V.at .z) (.inr Pure.int) e22 (λ u w29 h59=>?_)
     exact ⟨u,rfl,trivial,h59⟩
    have h60:=h
    have h61:=(h60.pick (.s (.s (.s .z)))).freeze
    obtain ⟨y8,e23,hF⟩:=Qa hF
    have h62:=h61.front (.cons (.s (.s (.s .z))) (.cons (.s (.s (.s (.s .z)))) (.cons (.s (.s (.s (.s .z)))) .nil)))
    refine op (OpS.callO h62 Tryz.func88 rfl rfl rfl rfl (vs:=[qd,.int .i64 x3,(q4 22)]) rfl (Qdz e23) rfl (.cons (f:=true) (V.at .z) .nil) ?_)
    rintro _ w30 _ _ _ ⟨u14,u15,rfl,rfl,rfl,rfl⟩ h63
    have h64:=h63
    simp only [ca,na] at h64
    refine ga rfl (nil (Run.slim [(0,v0),(3,u1),(5,.int .i64 x1),(7,.int .i64 x3),(9,.int .i64 y8.1)] ⟨rfl,rfl,rfl,rfl,rfl,trivial⟩ ?_))
    exact hj3 (y8.1,y8.2) _ _ ⟨u14,u15,rfl,(h64.facts .nil).picks (.cons (.s (.s (.s .z))) (.cons (.s (.s (.s .z))) (.cons .z (.cons (.s (.s .z)) (.cons (.s (.s .z)) (.cons .z (.cons .z .nil)))))))⟩ hF
   refine Run.skip (Run.slim [(0,v0),(3,u1),(5,.int .i64 x1),(7,.int .i64 x3),(9,.int .i64 s2.1)] ⟨rfl,rfl,rfl,rfl,rfl,trivial⟩ ?_)
   exact hj3 (s2.1,s2.2) _ _ ⟨u4,u5,rfl,(h24.facts .nil).picks (.cons .z (.cons .z (.cons .z (.cons .z (.cons .z (.cons .z (.cons .z .nil)))))))⟩ hF
  refine Run.ite rfl hF (λ e24 hF=>?_) (λ e24 hF=>?_)
  ·refine Run.reg (gm rfl (op (OpS.nchk h23 .z rfl rfl rfl ?_)))
   refine op (OpS.fbox (o3:=0) h23 .z PA.z Qfn rfl rfl rfl rfl ?_)
   refine op (OpS.loadR h23 .z PA.a (GetS.ok (GetS.iso _ (GetS.here GetS.id))) ty31 rfl rfl rfl rfl rfl ?_)
   refine gm rfl ?_
   obtain ⟨y9,e25,hF⟩:=Qa hF
   have h65:=h23.front (.cons (.s (.s .z)) (.cons (.s (.s (.s (.s .z)))) (.cons (.s (.s (.s (.s .z)))) .nil)))
   refine op (OpS.callO h65 Tryz.func207 rfl rfl rfl rfl (vs:=[qd,.int .i64 x2]) rfl (Qkg e25) rfl .nil ?_)
   rintro _ w31 _ _ _ ⟨u16,u17,rfl,rfl,rfl,rfl⟩ h66
   have h67:=h66
   simp only [ca,na] at h67
   refine ga rfl (nil (Run.slim [(0,v0),(3,u1),(5,.int .i64 x1),(7,.int .i64 x3),(9,.int .i64 y9.1)] ⟨rfl,rfl,rfl,rfl,rfl,trivial⟩ ?_))
   exact hj2 (y9.1,y9.2) _ _ ⟨u16,u17,rfl,(h67.facts .nil).picks (.cons (.s (.s (.s .z))) (.cons (.s (.s (.s .z))) (.cons .z (.cons (.s (.s .z)) (.cons (.s (.s .z)) (.cons .z (.cons .z .nil)))))))⟩ hF
  refine Run.skip (Run.slim [(0,v0),(3,u1),(5,.int .i64 x1),(7,.int .i64 x3),(9,.int .i64 y3.2)] ⟨rfl,rfl,rfl,rfl,rfl,trivial⟩ ?_)
  exact hj2 (y3.2,ad) _ _ ⟨vd_0,vd_1,rfl,(h23.facts .nil).picks (.cons .z (.cons .z (.cons .z (.cons .z (.cons .z (.cons .z (.cons .z .nil)))))))⟩ hF
 refine RunL.caseb hF (λ e26 hF=>?_) (λ e26 hF=>?_)
 ·refine gm rfl ?_
  obtain ⟨y10,e27,hF⟩:=Qa hF
  refine op (OpS.callP h22 Tryz.func147 rfl rfl rfl rfl (vs:=[(q2 14)]) rfl (Qin e27) (.cons (f:=true) (V.at (.s (.s (.s (.s (.s .z)))))) .nil) ?_)
  rintro _ w32 _ _ _ ⟨rfl,rfl,rfl,rfl⟩ h68
  have h69:=h68 rfl rfl
  simp only [ca,na] at h69
  refine op (OpS.not rfl rfl rfl ?_)
  refine gk rfl (nil (Run.slim [(0,v0),(3,u1),(5,.int .i64 x1),(6,.int .i64 x2),(7,.int .i64 x3),(9,.int .i64 y3.2),(56,.bool (!y10))] ⟨rfl,rfl,rfl,rfl,rfl,rfl,rfl,trivial⟩ ?_))
  exact hj1 (!y10) _ _ ⟨rfl,(h69.facts .nil).picks (.cons (.s (.s (.s (.s .z)))) (.cons (.s (.s (.s (.s .z)))) (.cons .z (.cons (.s (.s .z)) (.cons (.s (.s .z)) (.cons .z (.cons .z .nil)))))))⟩ hF
 refine gp rfl (gp rfl (gp rfl (gk rfl (nil (Run.slim [(0,v0),(3,u1),(5,.int .i64 x1),(6,.int .i64 x2),(7,.int .i64 x3),(9,.int .i64 y3.2),(56,.bool false)] ⟨rfl,rfl,rfl,rfl,rfl,rfl,rfl,trivial⟩ ?_)))))
 exact hj1 (false) _ _ ⟨rfl,(h22.facts .nil).picks (.cons (.s (.s (.s (.s .z)))) (.cons (.s (.s (.s (.s .z)))) (.cons .z (.cons (.s (.s .z)) (.cons (.s (.s .z)) (.cons .z (.cons .z .nil)))))))⟩ hF
set_option maxRecDepth 20000 in
theorem Qld {fuel:Nat} {a0:Qb} {ad:Qc} {y:Int×Qb×Qc} (hF:Qdc fuel a0 ad=some y) {w:World} {v0 v0_0 qd v0_1 vd_0 vd_1:Value} :
  Spec Tryz.prog 86 [v0].toArray w [] [(false,.box 169 (Qb.repW v0_0 v0_1) v0 a0),(false,.lnk qd v0_0 a0.d),(false,.slice 200 Qe.rep v0_1 a0.records),(false,.box 166 (Qc.repW vd_0 vd_1) qd ad),(false,.slice 5 (Rep.int .u8) vd_0 ad.bytes),(false,.slice 3 (Rep.int .i64) vd_1 ad.wear)] (λ v Γr Ωr Ωo=>∃ w0_0 w0_1 wd_0 wd_1:Value,v=.int .i64 y.1∧Γr=[]∧Ωr=[]∧Ωo=[(false,.box 169 (Qb.repW w0_0 w0_1) v0 y.2.1),(false,.lnk qd w0_0 y.2.1.d),(false,(.slice 200 Qe.rep w0_1 y.2.1.records)),(false,.box 166 (Qc.repW wd_0 wd_1) qd y.2.2),(false,(.slice 5 (Rep.int .u8) wd_0 y.2.2.bytes)),(false,(.slice 3 (Rep.int .i64) wd_1 y.2.2.wear))]):=by
 refine Spec.of (L:=[(0,v0)]) Tryz.func86 rfl ⟨rfl,trivial⟩ rfl (λ e h=>?_)
 unfold Qdc at hF
 refine sr (ga rfl (nil (sr (gm rfl (op (OpS.nchk h .z rfl rfl rfl ?_))))))
 refine op (OpS.fbox (o3:=5) h .z PA.z Qom rfl rfl rfl rfl ?_)
 refine op (OpS.loadBi h .z PA.a (GetS.ok (GetS.iso _ (GetS.there (GetS.there (GetS.there (GetS.there (GetS.there (GetS.here GetS.id)))))))) ty3 rfl rfl rfl ?_)
 refine op (OpS.maxi rfl rfl rfl rfl ?_)
 refine ga rfl (nil (Run.seq (Run.seq ?_)))
 refine Run.drawV (Ωs:=[(false,.lnk qd v0_0 a0.d),(false,.slice 200 Qe.rep v0_1 a0.records),(false,.box 166 (Qc.repW vd_0 vd_1) qd ad),(false,.slice 5 (Rep.int .u8) vd_0 ad.bytes),(false,.slice 3 (Rep.int .i64) vd_1 ad.wear)]) [.k 9 v0,.kr 10 v0 [0],.kr 11 (padd v0 4) [0],.kr 12 (.int .i64 a0.newest) [0],.k 13 (.int .i64 (IntKind.i64.wrap (a0.newest+1))),.k 14 (.int .i64 (max a0.tail 1)),.k 15 (.int .i64 (IntKind.i64.wrap ((IntKind.i64.wrap (a0.newest+1))-(max a0.tail 1)))),.k 16 v0,.kr 17 v0 [0],.kr 18 (padd v0 2) [0],.kr 19 (.int .i64 a0.sectors) [0],.k 20 (.int .i64 (IntKind.i64.wrap (a0.sectors-2)))] [[],[0],[1],[2],[3],[],[4,5],[],[7],[8],[9],[10]] [[(false,.box 169 (Qb.repW v0_0 v0_1) v0 a0)]] [0,1,2,3,4,5,6,7,8,9,10,11,12] Qi rfl rfl rfl h (.cons ?_ (.cons ?_ (.cons ?_ (.cons ?_ (.cons ?_ (.cons ?_ (.cons ?_ (.cons ?_ (.cons ?_ (.cons ?_ (.cons ?_ (.cons ?_ .nil)))))))))))) (λ q1 w hq1 h=>?_)
 ·intro q1 w Γx Ωx h
  refine OpS.mv rfl rfl rfl ?_
  exact du h
 ·intro q1 w Γx Ωx h
  refine OpS.nchk h .z rfl rfl rfl ?_
  exact du h
 ·intro q1 w Γx Ωx h
  refine OpS.fbox (o3:=4) h .z PA.z Qer rfl rfl rfl rfl ?_
  exact du h
 ·intro q1 w Γx Ωx h
  refine OpS.loadBi h .z PA.a (GetS.ok (GetS.iso _ (GetS.there (GetS.there (GetS.there (GetS.there (GetS.here GetS.id))))))) ty3 rfl rfl rfl ?_
  exact du h
 ·intro q1 w Γx Ωx h
  refine OpS.bin rfl rfl rfl rfl rfl ?_
  exact du h
 ·intro q1 w Γx Ωx h
  refine OpS.mv rfl rfl rfl ?_
  exact du h
 ·intro q1 w Γx Ωx h
  refine OpS.bin rfl rfl rfl rfl rfl ?_
  exact du h
 ·intro q1 w Γx Ωx h
  refine OpS.mv rfl rfl rfl ?_
  exact du h
 ·intro q1 w Γx Ωx h
  refine OpS.nchk h .z rfl rfl rfl ?_
  exact du h
 ·intro q1 w Γx Ωx h
  refine OpS.fbox (o3:=2) h .z PA.z Qkf rfl rfl rfl rfl ?_
  exact du h
 ·intro q1 w Γx Ωx h
  refine OpS.loadBi h .z PA.a (GetS.ok (GetS.iso _ (GetS.there (GetS.there (GetS.here GetS.id))))) ty3 rfl rfl rfl ?_
  exact du h
 ·intro q1 w Γx Ωx h
  refine OpS.bin rfl rfl rfl rfl rfl ?_
  exact du h
 have h1:=h
 refine gb rfl (nil ?_)
 refine Run.ite rfl hF (λ e1 hF=>?_) (λ e1 hF=>?_)
 ·refine Run.seq (sr (gm rfl (op (OpS.nchk h1 .z rfl rfl rfl ?_))))
  refine op (OpS.fbox (o3:=3) h1 .z PA.z fa169_3 rfl rfl rfl rfl ?_)
  refine op (OpS.loadBb h1 .z PA.a (GetS.ok (GetS.iso _ (GetS.there (GetS.there (GetS.there (GetS.here GetS.id)))))) ty4 rfl rfl rfl ?_)
  refine op (OpS.not rfl rfl rfl ?_)
  refine nil ?_
  refine Run.ite rfl hF (λ e2 hF=>?_) (λ e2 hF=>?_)
  ·refine sr (gm rfl (op (OpS.nchk h1 .z rfl rfl rfl ?_)))
   refine op (OpS.fbox (o3:=9) h1 .z PA.z fa169_9 rfl rfl rfl rfl ?_)
   obtain ⟨d1,e3,hF⟩:=Qh hF
   refine op (OpS.storeC (f':=true) (fr:=Rep.bool) (r':=(Qb.repW v0_0 v0_1)) (x':=d1) h1 .z PA.a (Chg.of (x':={ a0 with full:=true }) (Chg.iso _ (Chg.there (Chg.there (Chg.there (Chg.there (Chg.there (Chg.there (Chg.there (Chg.there (Chg.there (Chg.here (Chg.id (by rfl))))))))))))) e3) ty4 rfl rfl rfl V.bool (.inr rfl) (λ w1 h2=>?_))
   refine nil (sr (ga rfl (nil ?_)))
   have h3:=St.boxJ (r':=(Qb.repW v0_0 v0_1)) (x':={ { d1 with d:=a0.d } with records:=a0.records }) (h2.pick .z) (λ _ _ hs_=>(Jn.iso _ (Jn.prod Jn.same (Jn.prod Jn.refl (Jn.prod Jn.refl (Jn.prod Jn.refl (Jn.prod Jn.refl (Jn.prod Jn.refl (Jn.prod Jn.refl (Jn.prod Jn.refl (Jn.prod Jn.same Jn.refl)))))))))))
   refine Run.retP rfl (.tmp rfl .nil) ?_
   cases hF
   exact Post.mk' ⟨v0_0,v0_1,vd_0,vd_1,rfl,rfl,rfl,rfl⟩ (h3.picks (.cons .z (.cons .z (.cons .z (.cons .z (.cons .z (.cons .z .nil))))))) .nil
  refine Run.skip (Run.reg (gm rfl (gb rfl (ga rfl ?_))))
  obtain ⟨x1,e4,hF⟩:=Qh hF
  refine RunL.name e4 ?_
  refine nil (sr (gm rfl (gm rfl ?_)))
  obtain ⟨y1,e5,hF⟩:=Qa hF
  have h4:=h1.front (.cons .z (.cons .z (.cons .z (.cons .z (.cons .z (.cons .z .nil))))))
  refine op (OpS.callO h4 Tryz.func156 rfl rfl rfl rfl (vs:=[v0,.int .i64 x1]) rfl (Qhf e5) rfl .nil ?_)
  rintro _ w2 _ _ _ ⟨u1,u2,u3,u4,rfl,rfl,rfl,rfl⟩ h5
  have h6:=h5
  simp only [ca,na] at h6
  refine ga rfl (nil (Run.slim [(2,.int .i64 y1.1)] ⟨rfl,trivial⟩ ?_))
  refine Run.retP rfl (.tmp rfl .nil) ?_
  cases hF
  exact Post.mk' ⟨u1,u2,u3,u4,rfl,rfl,rfl,rfl⟩ (h6.picks (.cons .z (.cons .z (.cons .z (.cons .z (.cons .z (.cons .z .nil))))))) .nil
 refine Run.skip (sr (gm rfl (gm rfl ?_)))
 obtain ⟨y2,e6,hF⟩:=Qa hF
 have h7:=h1.front (.cons .z (.cons .z (.cons .z (.cons .z (.cons .z (.cons .z .nil))))))
 refine op (OpS.callO h7 Tryz.func156 rfl rfl rfl rfl (vs:=[v0,.int .i64 (max a0.tail 1)]) rfl (Qhf e6) rfl .nil ?_)
 rintro _ w3 _ _ _ ⟨u5,u6,u7,u8,rfl,rfl,rfl,rfl⟩ h8
 have h9:=h8
 simp only [ca,na] at h9
 refine ga rfl (nil (Run.retP rfl (.tmp rfl .nil) ?_))
 cases hF
 exact Post.mk' ⟨u5,u6,u7,u8,rfl,rfl,rfl,rfl⟩ (h9.picks (.cons .z (.cons .z (.cons .z (.cons .z (.cons .z (.cons .z .nil))))))) .nil
theorem Qmz {fuel:Nat} {a0:Event_} {y:(List Int)×Int} (hF:Qft fuel a0=some y) {w:World} {v0:Value} :
  Spec Tryz.prog 87 [v0].toArray w [(false,.val Event_.rep v0 a0)] [] (λ v Γr Ωr Ωo=>∃ u0:Value,v=.tuple #[u0,.int .i64 y.2]∧Γr=[]∧Ωr=[(true,(.slice 5 (Rep.int .u8) u0 y.1))]∧Ωo=[]):=by
 refine Spec.of (L:=[(0,v0)]) Tryz.func87 rfl ⟨rfl,trivial⟩ rfl (λ e h=>?_)
 unfold Qft at hF
 refine sr (op (OpS.boxF h rfl rfl rfl (V.at .z) (λ u1 w1 h1=>?_)))
 refine ga rfl (ga rfl (nil (Run.seq (sr (op (OpS.loadB h1 .z PA.z Get.id ty55 rfl rfl rfl (λ u2 h2=>?_)))))))
 obtain ⟨y1,e1,hF⟩:=Qa hF
 refine op (OpS.callP h2 Tryz.func84 rfl rfl rfl rfl (vs:=[u2]) rfl (Qhr e1) (.cons (f:=false) (V.at .z) .nil) ?_)
 rintro _ w2 _ _ _ ⟨rfl,rfl,rfl,rfl⟩ h3
 have h4:=h3 rfl rfl
 simp only [ca,na] at h4
 refine op (OpS.not rfl rfl rfl ?_)
 refine nil ?_
 refine Run.ite rfl hF (λ e2 hF=>?_) (λ e2 hF=>?_)
 ·refine sr (ga rfl (ga rfl (nil ?_)))
  have h5:=St.nil 5 (Rep.int .u8) h4
  refine Run.retP rfl (.tmp rfl (.tmp rfl .nil)) ?_
  cases hF
  exact Post.mk' ⟨(.slice none 0 0),rfl,rfl,rfl,rfl⟩ (h5.picks (.cons .z .nil)) .nil
 refine Run.skip (sr (op (OpS.fbox (o3:=5) h4 .z PA.z Qpl rfl rfl rfl rfl ?_)))
 refine op (OpS.loadBi h4 .z PA.a (Get.fld Event_.f5) ty5 rfl rfl rfl ?_)
 refine ga rfl (nil (Run.seq (sr (op (OpS.fbox (o3:=6) h4 .z PA.z Qup rfl rfl rfl rfl ?_)))))
 refine op (OpS.loadBb h4 .z PA.a (Get.fld Event_.f6) ty4 rfl rfl rfl ?_)
 refine nil ?_
 refine Run.join (σ:=Int) (λ s_ L_ w_=>L_=[(1,u1),(4,.int .u8 s_)]∧St e w_ [] [(false,.box 55 Event_.rep u1 a0)]) hF (λ s1 _ w3 hI hF=>?_) (λ j1 hj1 hF=>?_)
 ·obtain ⟨rfl,h6⟩:=hI
  refine sr (op (OpS.fbox (o3:=0) h6 .z PA.z Qnv rfl rfl rfl rfl ?_))
  refine op (OpS.loadBi h6 .z PA.a (Get.fld Event_.f0) ty49 rfl rfl rfl ?_)
  refine op (OpS.conv Tryz.underlying49 Tryz.underlying5 rfl rfl rfl ?_)
  refine op (OpS.fbox (o3:=0) h6 .z PA.z Qnv rfl rfl rfl rfl ?_)
  refine op (OpS.loadBi h6 .z PA.a (Get.fld Event_.f0) ty49 rfl rfl rfl ?_)
  refine op (OpS.shr rfl rfl rfl rfl (by decide) ?_)
  refine op (OpS.conv Tryz.underlying49 Tryz.underlying5 rfl rfl rfl ?_)
  refine op (OpS.fbox (o3:=1) h6 .z PA.z Qof rfl rfl rfl rfl ?_)
  refine op (OpS.loadBi h6 .z PA.a (Get.fld Event_.f1) ty52 rfl rfl rfl ?_)
  refine op (OpS.conv Tryz.underlying52 Tryz.underlying5 rfl rfl rfl ?_)
  refine op (OpS.fbox (o3:=1) h6 .z PA.z Qof rfl rfl rfl rfl ?_)
  refine op (OpS.loadBi h6 .z PA.a (Get.fld Event_.f1) ty52 rfl rfl rfl ?_)
  refine op (OpS.shr rfl rfl rfl rfl (by decide) ?_)
  refine op (OpS.conv Tryz.underlying52 Tryz.underlying5 rfl rfl rfl ?_)
  refine op (OpS.fbox (o3:=1) h6 .z PA.z Qof rfl rfl rfl rfl ?_)
  refine op (OpS.loadBi h6 .z PA.a (Get.fld Event_.f1) ty52 rfl rfl rfl ?_)
  refine op (OpS.shr rfl rfl rfl rfl (by decide) ?_)
  refine op (OpS.conv Tryz.underlying52 Tryz.underlying5 rfl rfl rfl ?_)
  refine op (OpS.fbox (o3:=1) h6 .z PA.z Qof rfl rfl rfl rfl ?_)
  refine op (OpS.loadBi h6 .z PA.a (Get.fld Event_.f1) ty52 rfl rfl rfl ?_)
  refine op (OpS.shr rfl rfl rfl rfl (by decide) ?_)
  refine op (OpS.conv Tryz.underlying52 Tryz.underlying5 rfl rfl rfl ?_)
  refine op (OpS.fbox (o3:=2) h6 .z PA.z Qvn rfl rfl rfl rfl ?_)
  refine op (OpS.loadBi h6 .z PA.a (Get.fld Event_.f2) ty49 rfl rfl rfl ?_)
  refine op (OpS.conv Tryz.underlying49 Tryz.underlying5 rfl rfl rfl ?_)
  refine op (OpS.fbox (o3:=2) h6 .z PA.z Qvn rfl rfl rfl rfl ?_)
  refine op (OpS.loadBi h6 .z PA.a (Get.fld Event_.f2) ty49 rfl rfl rfl ?_)
  refine op (OpS.shr rfl rfl rfl rfl (by decide) ?_)
  refine op (OpS.conv Tryz.underlying49 Tryz.underlying5 rfl rfl rfl ?_)
  refine op (OpS.fbox (o3:=3) h6 .z PA.z Qpg rfl rfl rfl rfl ?_)
  refine op (OpS.loadBi h6 .z PA.a (Get.fld Event_.f3) ty5 rfl rfl rfl ?_)
  refine op (OpS.fbox (o3:=4) h6 .z PA.z Qvb rfl rfl rfl rfl ?_)
  refine op (OpS.loadBi h6 .z PA.a (Get.fld Event_.f4) ty5 rfl rfl rfl ?_)
  refine gm rfl (op (OpS.fbox (o3:=7) h6 .z PA.z Qoa rfl rfl rfl rfl ?_))
  obtain ⟨x1,e3,hF⟩:=Qa hF
  obtain ⟨e4,hF⟩:=Qr hF
  refine op (OpS.ibox h6 .z PA.a Tryz.underlying53 ty5 (Nat.eq_of_beq_eq_true e4) rfl rfl rfl rfl e3 ?_)
  refine op (OpS.loadBi h6 .z PA.a (Get.comp (Get.fld Event_.f7) (Get.arr e3)) ty5 rfl rfl rfl ?_)
  refine op (OpS.fbox (o3:=7) h6 .z PA.z Qoa rfl rfl rfl rfl ?_)
  obtain ⟨x2,e5,hF⟩:=Qa hF
  obtain ⟨e6,hF⟩:=Qr hF
  refine op (OpS.ibox h6 .z PA.a Tryz.underlying53 ty5 (Nat.eq_of_beq_eq_true e6) rfl rfl rfl rfl e5 ?_)
  refine op (OpS.loadBi h6 .z PA.a (Get.comp (Get.fld Event_.f7) (Get.arr e5)) ty5 rfl rfl rfl ?_)
  refine op (OpS.fbox (o3:=7) h6 .z PA.z Qoa rfl rfl rfl rfl ?_)
  obtain ⟨x3,e7,hF⟩:=Qa hF
  obtain ⟨e8,hF⟩:=Qr hF
  refine op (OpS.ibox h6 .z PA.a Tryz.underlying53 ty5 (Nat.eq_of_beq_eq_true e8) rfl rfl rfl rfl e7 ?_)
  refine op (OpS.loadBi h6 .z PA.a (Get.comp (Get.fld Event_.f7) (Get.arr e7)) ty5 rfl rfl rfl ?_)
  refine op (OpS.litO (r:=(Rep.int .u8)) (f:=true) h6 Tryz.underlying24 ti5 rfl rfl rfl rfl rfl (.cons rfl V.int (.cons rfl V.int (.cons rfl V.int (.cons rfl V.int (.cons rfl V.int (.cons rfl V.int (.cons rfl V.int (.cons rfl V.int (.cons rfl V.int (.cons rfl V.int (.cons rfl V.int (.cons rfl V.int (.cons rfl V.int (.cons rfl V.int (.cons rfl V.int (.cons rfl V.int .nil)))))))))))))))) rfl rfl (λ u3 w4 h7=>?_))
  refine ga rfl (ga rfl (nil (Run.slim [(3,.int .i64 0),(2,u3)] ⟨rfl,rfl,trivial⟩ ?_)))
  refine Run.retP rfl (.tmp rfl (.tmp rfl .nil)) ?_
  cases hF
  exact Post.mk' ⟨u3,rfl,rfl,rfl,rfl⟩ (h7.picks (.cons .z .nil)) .nil
 refine Run.ite rfl hF (λ e9 hF=>?_) (λ e9 hF=>?_)
 ·refine Run.reg (gm rfl (gb rfl (ga rfl (nil (Run.slim [(1,u1),(4,.int .u8 (bOr .u8 a0.Type_ 128))] ⟨rfl,rfl,trivial⟩ ?_)))))
  exact hj1 ((bOr .u8 a0.Type_ 128)) _ _ ⟨rfl,(h4.facts .nil).picks (.cons .z .nil)⟩ hF
 refine Run.skip (Run.slim [(1,u1),(4,.int .u8 a0.Type_)] ⟨rfl,rfl,trivial⟩ ?_)
 exact hj1 (a0.Type_) _ _ ⟨rfl,(h4.facts .nil).picks (.cons .z .nil)⟩ hF
set_option maxHeartbeats 8000000 in set_option maxRecDepth 20000 in
theorem Qhh {fuel:Nat} {a0:Qb} {a1:Event_} {ad:Qc} {y:Int×Int×Qb×Qc} (hF:Qcr fuel a0 a1 ad=some y) {w:World} {v0 v0_0 qd v0_1 v1 vd_0 vd_1:Value} :
  Spec Tryz.prog 21 [v0,v1].toArray w [(false,.val Event_.rep v1 a1)] [(false,.box 169 (Qb.repW v0_0 v0_1) v0 a0),(false,.lnk qd v0_0 a0.d),(false,.slice 200 Qe.rep v0_1 a0.records),(false,.box 166 (Qc.repW vd_0 vd_1) qd ad),(false,.slice 5 (Rep.int .u8) vd_0 ad.bytes),(false,.slice 3 (Rep.int .i64) vd_1 ad.wear)] (λ v Γr Ωr Ωo=>∃ w0_0 w0_1 wd_0 wd_1:Value,v=.tuple #[.int .u16 y.1,.int .i64 y.2.1]∧Γr=[]∧Ωr=[]∧Ωo=[(false,.box 169 (Qb.repW w0_0 w0_1) v0 y.2.2.1),(false,.lnk qd w0_0 y.2.2.1.d),(false,(.slice 200 Qe.rep w0_1 y.2.2.1.records)),(false,.box 166 (Qc.repW wd_0 wd_1) qd y.2.2.2),(false,(.slice 5 (Rep.int .u8) wd_0 y.2.2.2.bytes)),(false,(.slice 3 (Rep.int .i64) wd_1 y.2.2.2.wear))]):=by
 refine Spec.of (L:=[(0,v0),(1,v1)]) Tryz.func21 rfl ⟨rfl,rfl,trivial⟩ rfl (λ e h=>?_)
 unfold Qcr at hF
 refine sr (op (OpS.boxF h rfl rfl rfl (V.at .z) (λ u1 w1 h1=>?_)))
 refine ga rfl (ga rfl (nil (Run.seq (sr (gm rfl ?_)))))
 obtain ⟨y1,e1,hF⟩:=Qa hF
 have h2:=h1.front (.cons (.s .z) (.cons (.s .z) (.cons (.s .z) (.cons (.s .z) (.cons (.s .z) (.cons (.s .z) .nil))))))
 refine op (OpS.callO h2 Tryz.func83 rfl rfl rfl rfl (vs:=[v0]) rfl (Qfa e1) rfl .nil ?_)
 rintro _ w2 _ _ _ ⟨u2,u3,u4,u5,rfl,rfl,rfl,rfl⟩ h3
 have h4:=h3
 simp only [ca,na] at h4
 refine nil ?_
 refine Run.ite rfl hF (λ e2 hF=>?_) (λ e2 hF=>?_)
 ·refine sr (ga rfl (ga rfl (nil (Run.retP rfl (.tmp rfl (.tmp rfl .nil)) ?_))))
  cases hF
  exact Post.mk' ⟨u2,u3,u4,u5,rfl,rfl,rfl,rfl⟩ (h4.picks (.cons .z (.cons .z (.cons .z (.cons .z (.cons .z (.cons .z .nil))))))) .nil
 refine Run.skip (Run.seq (sr (op (OpS.loadB h4 (.s (.s (.s (.s (.s (.s .z)))))) PA.z Get.id ty55 rfl rfl rfl (λ u6 h5=>?_)))))
 obtain ⟨y2,e3,hF⟩:=Qa hF
 refine op (OpS.callP h5 Tryz.func84 rfl rfl rfl rfl (vs:=[u6]) rfl (Qhr e3) (.cons (f:=false) (V.at .z) .nil) ?_)
 rintro _ w3 _ _ _ ⟨rfl,rfl,rfl,rfl⟩ h6
 have h7:=h6 rfl rfl
 simp only [ca,na] at h7
 refine op (OpS.not rfl rfl rfl ?_)
 refine gm rfl ?_
 refine RunL.join (σ:=Bool) (λ s_ L_ w_=>L_=[(0,v0),(3,u1),(20,.bool s_)]∧St e w_ [] [(false,.box 169 (Qb.repW u2 u3) v0 y1.2.1),(false,.box 55 Event_.rep u1 a1),(false,.box 166 (Qc.repW u4 u5) qd y1.2.2),(false,.lnk qd u2 y1.2.1.d),(false,.slice 200 Qe.rep u3 y1.2.1.records),(false,.slice 5 (Rep.int .u8) u4 y1.2.2.bytes),(false,.slice 3 (Rep.int .i64) u5 y1.2.2.wear)]) hF (λ s1 _ w4 hI hF=>?_) (λ j1 hj1 hF=>?_)
 ·obtain ⟨rfl,h8⟩:=hI
  refine Run.ite rfl hF (λ e4 hF=>?_) (λ e4 hF=>?_)
  ·refine sr (ga rfl (ga rfl (nil (Run.retP rfl (.tmp rfl (.tmp rfl .nil)) ?_))))
   cases hF
   exact Post.mk' ⟨u2,u3,u4,u5,rfl,rfl,rfl,rfl⟩ (h8.picks (.cons .z (.cons (.s (.s .z)) (.cons (.s (.s .z)) (.cons (.s .z) (.cons (.s .z) (.cons (.s .z) .nil))))))) .nil
  refine Run.skip (Run.seq (Run.seq ?_))
  refine Run.join (σ:=Bool) (λ s_ L_ w_=>L_=[(0,v0),(3,u1),(38,.bool s_)]∧St e w_ [] [(false,.box 169 (Qb.repW qd u3) v0 y1.2.1),(false,.box 55 Event_.rep u1 a1),(false,.box 166 (Qc.repW u4 u5) qd y1.2.2),(false,.lnk qd qd y1.2.1.d),(false,.slice 200 Qe.rep u3 y1.2.1.records),(false,.slice 5 (Rep.int .u8) u4 y1.2.2.bytes),(false,.slice 3 (Rep.int .i64) u5 y1.2.2.wear)]) hF (λ s2 _ w5 hI hF=>?_) (λ j2 hj2 hF=>?_)
  ·obtain ⟨rfl,h9⟩:=hI
   refine Run.join (σ:=(Qb×Qc)) (λ s_ L_ w_=>∃ u0_ u1_ u2_ u3_:Value,L_=[(0,v0),(3,u1)]∧St e w_ [] [(false,.box 169 (Qb.repW u0_ u1_) v0 s_.1),(false,.box 55 Event_.rep u1 a1),(false,.box 166 (Qc.repW u2_ u3_) qd s_.2),(false,.lnk qd u0_ s_.1.d),(false,.slice 200 Qe.rep u1_ s_.1.records),(false,.slice 5 (Rep.int .u8) u2_ s_.2.bytes),(false,.slice 3 (Rep.int .i64) u3_ s_.2.wear)]) hF (λ s3 _ w6 hI hF=>?_) (λ j3 hj3 hF=>?_)
   ·obtain ⟨u7,u8,u9,u10,rfl,h10⟩:=hI
    refine sr (gm rfl (op (OpS.nchk h10 .z rfl rfl rfl ?_)))
    refine op (OpS.fbox (o3:=7) h10 .z PA.z Qjd rfl rfl rfl rfl ?_)
    refine op (OpS.loadBi h10 .z PA.a (GetS.ok (GetS.iso _ (GetS.there (GetS.there (GetS.there (GetS.there (GetS.there (GetS.there (GetS.there (GetS.here GetS.id)))))))))) ty49 rfl rfl rfl ?_)
    refine op (OpS.fbox (o3:=0) h10 (.s .z) PA.z Qnv rfl rfl rfl rfl ?_)
    obtain ⟨d1,e5,hF⟩:=Qh hF
    refine op (OpS.storeB (f':=true) h10 (.s .z) PA.a (Put.of (Put.fld Event_.f0) e5) ty49 rfl rfl rfl V.int (.inr rfl) (λ w7 h11=>?_))
    refine nil (sr (op (OpS.loadB h11 .z PA.z Get.id ty55 rfl rfl rfl (λ u11 h12=>?_))))
    obtain ⟨y3,e6,hF⟩:=Qa hF
    refine op (OpS.callP h12 Tryz.func87 rfl rfl rfl rfl (vs:=[u11]) rfl (Qmz e6) (.cons (f:=false) (V.at .z) .nil) ?_)
    rintro _ w8 _ _ _ ⟨u12,rfl,rfl,rfl,rfl⟩ h13
    have h14:=h13 rfl rfl
    simp only [ca,na] at h14
    refine gm rfl (op (OpS.ext rfl rfl rfl rfl ?_))
    refine op (OpS.ext rfl rfl rfl rfl ?_)
    refine ga rfl (ga rfl (nil (Run.seq ?_)))
    obtain ⟨e7,hF⟩:=Qr hF
    obtain ⟨e8,h15⟩:=St.attach (h14.pick (.s (.s (.s (.s .z))))) e7
    subst e8
    have h16:=h15.picks (.cons .z (.cons (.s (.s .z)) (.cons (.s (.s .z)) (.cons (.s (.s (.s .z))) (.cons (.s (.s (.s .z))) (.cons .z (.cons .z (.cons .z .nil))))))))
    obtain ⟨e9,hF⟩:=Qr hF
    obtain ⟨y4,e10,hF⟩:=Qa hF
    refine Run.drawV (Ωs:=[(true,.slice 5 (Rep.int .u8) u12 y3.1),(false,.box 55 Event_.rep u1 d1),(false,.slice 200 Qe.rep u8 s3.1.records)]) [.k 56 v0,.kr 57 v0 [1],.kr 58 (padd v0 1) [1],.kr 59 (.int .i64 s3.1.first) [1],.k 60 v0,.kr 61 v0 [1],.kr 62 (padd v0 4) [1],.kr 63 (.int .i64 s3.1.newest) [1],.k 64 (.int .i64 (IntKind.i64.wrap (s3.1.newest-1))),.k 65 v0,.kr 66 v0 [1],.kr 67 (padd v0 2) [1],.kr 68 (.int .i64 s3.1.sectors) [1],.k 69 (.int .i64 (Int.tmod (IntKind.i64.wrap (s3.1.newest-1)) s3.1.sectors)),.k 70 (.int .i64 (IntKind.i64.wrap (s3.1.first+(Int.tmod (IntKind.i64.wrap (s3.1.newest-1)) s3.1.sectors)))),.k 71 v0,.kr 72 v0 [1],.kr 73 (padd v0 0) [1],.kr 74 qd [1,0],.kr 75 (.int .i64 y4) [2,3,4],.k 76 (.int .i64 (IntKind.i64.wrap ((IntKind.i64.wrap (s3.1.first+(Int.tmod (IntKind.i64.wrap (s3.1.newest-1)) s3.1.sectors)))*y4))),.k 77 (.int .i64 (IntKind.i64.wrap ((IntKind.i64.wrap ((IntKind.i64.wrap (s3.1.first+(Int.tmod (IntKind.i64.wrap (s3.1.newest-1)) s3.1.sectors)))*y4))+11))),.k 78 v0,.kr 79 v0 [1],.kr 80 (padd v0 6) [1],.kr 81 (.int .i64 s3.1.used) [1],.k 82 (.int .i64 (IntKind.i64.wrap (s3.1.used*17)))] [[],[0],[1],[2],[],[4],[5],[6],[7],[],[9],[10],[11],[8,12],[3,13],[],[15],[16],[17],[18],[14,19],[20],[],[22],[23],[24],[25]] [[(false,.lnk qd qd s3.1.d)],[(false,.box 169 (Qb.repW qd u8) v0 s3.1)],[(false,.box 166 (Qc.repW u9 u10) qd s3.2)],[(false,.slice 5 (Rep.int .u8) u9 s3.2.bytes)],[(false,.slice 3 (Rep.int .i64) u10 s3.2.wear)]] [0,1,2,3,4,5,6,7,8,9,10,11,12,13,14,15,16,17,18,19,20,21,22,23,24,25,26,27,28,29,30,31] Qi rfl rfl rfl h16 (.cons ?_ (.cons ?_ (.cons ?_ (.cons ?_ (.cons ?_ (.cons ?_ (.cons ?_ (.cons ?_ (.cons ?_ (.cons ?_ (.cons ?_ (.cons ?_ (.cons ?_ (.cons ?_ (.cons ?_ (.cons ?_ (.cons ?_ (.cons ?_ (.cons ?_ (.cons ?_ (.cons ?_ (.cons ?_ (.cons ?_ (.cons ?_ (.cons ?_ (.cons ?_ (.cons ?_ .nil))))))))))))))))))))))))))) (λ q1 w hq1 h=>?_)
    ·intro q1 w Γx Ωx h
     refine OpS.mv rfl rfl rfl ?_
     exact du h
    ·intro q1 w Γx Ωx h
     refine OpS.nchk h .z rfl rfl rfl ?_
     exact du h
    ·intro q1 w Γx Ωx h
     refine OpS.fbox (o3:=1) h .z PA.z Qte rfl rfl rfl rfl ?_
     exact du h
    ·intro q1 w Γx Ωx h
     refine OpS.loadBi h .z PA.a (GetS.ok (GetS.iso _ (GetS.there (GetS.here GetS.id)))) ty3 rfl rfl rfl ?_
     exact du h
    ·intro q1 w Γx Ωx h
     refine OpS.mv rfl rfl rfl ?_
     exact du h
    ·intro q1 w Γx Ωx h
     refine OpS.nchk h .z rfl rfl rfl ?_
     exact du h
    ·intro q1 w Γx Ωx h
     refine OpS.fbox (o3:=4) h .z PA.z Qer rfl rfl rfl rfl ?_
     exact du h
    ·intro q1 w Γx Ωx h
     refine OpS.loadBi h .z PA.a (GetS.ok (GetS.iso _ (GetS.there (GetS.there (GetS.there (GetS.there (GetS.here GetS.id))))))) ty3 rfl rfl rfl ?_
     exact du h
    ·intro q1 w Γx Ωx h
     refine OpS.bin rfl rfl rfl rfl rfl ?_
     exact du h
    ·intro q1 w Γx Ωx h
     refine OpS.mv rfl rfl rfl ?_
     exact du h
    ·intro q1 w Γx Ωx h
     refine OpS.nchk h .z rfl rfl rfl ?_
     exact du h
    ·intro q1 w Γx Ωx h
     refine OpS.fbox (o3:=2) h .z PA.z Qkf rfl rfl rfl rfl ?_
     exact du h
    ·intro q1 w Γx Ωx h
     refine OpS.loadBi h .z PA.a (GetS.ok (GetS.iso _ (GetS.there (GetS.there (GetS.here GetS.id))))) ty3 rfl rfl rfl ?_
     exact du h
    ·intro q1 w Γx Ωx h
     refine OpS.rem rfl rfl rfl rfl e9 ?_
     exact du h
    ·intro q1 w Γx Ωx h
     refine OpS.bin rfl rfl rfl rfl rfl ?_
     exact du h
    ·intro q1 w Γx Ωx h
     refine OpS.mv rfl rfl rfl ?_
     exact du h
    ·intro q1 w Γx Ωx h
     refine OpS.nchk h .z rfl rfl rfl ?_
     exact du h
    ·intro q1 w Γx Ωx h
     refine OpS.fbox (o3:=0) h .z PA.z Qfn rfl rfl rfl rfl ?_
     exact du h
    ·intro q1 w Γx Ωx h
     refine OpS.loadR h .z PA.a (GetS.ok (GetS.iso _ (GetS.here GetS.id))) ty31 rfl rfl rfl rfl rfl ?_
     exact du h
    ·intro q1 w Γx Ωx h
     have h20:=h.front (.cons .z (.cons .z (.cons .z .nil)))
     refine OpS.callO h20 Tryz.func71 rfl rfl rfl rfl (vs:=[qd]) rfl (Qbf e10) rfl .nil ?_
     rintro _ w10 _ _ _ ⟨rfl,rfl,rfl,rfl⟩ h21
     have h22:=h21
     simp only [ca,na] at h22
     exact ⟨undef,rfl,trivial,h22⟩
    ·intro q1 w Γx Ωx h
     refine OpS.bin rfl rfl rfl rfl rfl ?_
     exact du h
    ·intro q1 w Γx Ωx h
     refine OpS.bin rfl rfl rfl rfl rfl ?_
     exact du h
    ·intro q1 w Γx Ωx h
     refine OpS.mv rfl rfl rfl ?_
     exact du h
    ·intro q1 w Γx Ωx h
     refine OpS.nchk h .z rfl rfl rfl ?_
     exact du h
    ·intro q1 w Γx Ωx h
     refine OpS.fbox (o3:=6) h .z PA.z Qiz rfl rfl rfl rfl ?_
     exact du h
    ·intro q1 w Γx Ωx h
     refine OpS.loadBi h .z PA.a (GetS.ok (GetS.iso _ (GetS.there (GetS.there (GetS.there (GetS.there (GetS.there (GetS.there (GetS.here GetS.id))))))))) ty3 rfl rfl rfl ?_
     exact du h
    ·intro q1 w Γx Ωx h
     refine OpS.bin rfl rfl rfl rfl rfl ?_
     exact du h
    have h23:=h
    refine gb rfl (ga rfl ?_)
    obtain ⟨x1,e11,hF⟩:=Qh hF
    refine RunL.name e11 ?_
    refine nil (Run.slim [(9,.int .i64 x1),(7,u12),(0,v0),(3,u1)] ⟨rfl,rfl,rfl,rfl,trivial⟩ ?_)
    refine Run.seq (Run.seq ?_)
    have h24:=h23.picks (.cons .z (.cons .z (.cons (.s (.s (.s .z))) (.cons .z (.cons .z (.cons .z (.cons .z (.cons .z .nil))))))))
    obtain ⟨x2,e12,hF⟩:=Qa hF
    refine Run.drawV (Ωs:=[(false,.box 166 (Qc.repW u9 u10) qd s3.2),(false,.slice 5 (Rep.int .u8) u9 s3.2.bytes),(false,.slice 3 (Rep.int .i64) u10 s3.2.wear),(false,.box 55 Event_.rep u1 d1),(false,.slice 200 Qe.rep u8 s3.1.records)]) [.k 84 v0,.kr 85 v0 [1],.kr 86 (padd v0 0) [1],.kr 87 qd [1,0],.k 88 (.int .i64 x1),.k 89 u12,.f 90 (λ u_=>[(true,.val (Rep.slice (Rep.int .u8)) u_ ([0]))]),⟨some 91,none,λ u_=>[],λ ds_ u_=>[(true,.slice 5 (Rep.int .u8) u_ x2)],[2],[],none⟩] [[],[0],[1],[2],[],[],[],[5,6]] [[(false,.lnk qd qd s3.1.d)],[(false,.box 169 (Qb.repW qd u8) v0 s3.1)],[(true,.slice 5 (Rep.int .u8) u12 y3.1)]] [0,1,3,4,5,6,7,8,9,10] Qi rfl rfl rfl h24 (.cons ?_ (.cons ?_ (.cons ?_ (.cons ?_ (.cons ?_ (.cons ?_ (.cons ?_ (.cons ?_ .nil)))))))) (λ q2 w hq2 h=>?_)
    ·intro q2 w Γx Ωx h
     refine OpS.mv rfl rfl rfl ?_
     exact du h
    ·intro q2 w Γx Ωx h
     refine OpS.nchk h .z rfl rfl rfl ?_
     exact du h
    ·intro q2 w Γx Ωx h
     refine OpS.fbox (o3:=0) h .z PA.z Qfn rfl rfl rfl rfl ?_
     exact du h
    ·intro q2 w Γx Ωx h
     refine OpS.loadR h .z PA.a (GetS.ok (GetS.iso _ (GetS.here GetS.id))) ty31 rfl rfl rfl rfl rfl ?_
     exact du h
    ·intro q2 w Γx Ωx h
     refine OpS.mv rfl rfl rfl ?_
     exact du h
    ·intro q2 w Γx Ωx h
     refine OpS.mv rfl rfl rfl ?_
     exact du h
    ·intro q2 w Γx Ωx h
     refine OpS.lit (r:=(Rep.int .u8)) (f:=true) h Tryz.underlying24 ti5 rfl rfl rfl rfl rfl (.cons rfl V.int .nil) rfl rfl (λ u w13 h27=>?_)
     exact ⟨u,rfl,trivial,h27⟩
    ·intro q2 w Γx Ωx h
     refine OpS.app (f':=true) h .z Tryz.underlying24 ti5 rfl rfl rfl rfl rfl rfl rfl (V.at .z) (.inr Pure.int) e12 (λ u w14 h28=>?_)
     exact ⟨u,rfl,trivial,h28⟩
    have h29:=h
    have h30:=(h29.pick (.s (.s .z))).freeze
    obtain ⟨y5,e13,hF⟩:=Qa hF
    have h31:=h30.front (.cons (.s (.s .z)) (.cons (.s (.s .z)) (.cons (.s (.s .z)) .nil)))
    refine op (OpS.callO h31 Tryz.func88 rfl rfl rfl rfl (vs:=[qd,.int .i64 x1,(q2 7)]) rfl (Qdz e13) rfl (.cons (f:=true) (V.at .z) .nil) ?_)
    rintro _ w15 _ _ _ ⟨u13,u14,rfl,rfl,rfl,rfl⟩ h32
    have h33:=h32
    simp only [ca,na] at h33
    refine ga rfl (nil (sr (gm rfl (gb rfl (nil ?_)))))
    refine Run.ite rfl hF (λ e14 hF=>?_) (λ e14 hF=>?_)
    ·refine sr (gm rfl ?_)
     obtain ⟨y6,e15,hF⟩:=Qa hF
     have h34:=h33.front (.cons (.s (.s (.s (.s .z)))) (.cons (.s (.s (.s .z))) (.cons (.s (.s (.s (.s .z)))) (.cons .z (.cons .z (.cons .z .nil))))))
     refine op (OpS.callO h34 Tryz.func83 rfl rfl rfl rfl (vs:=[v0]) rfl (Qfa e15) rfl .nil ?_)
     rintro _ w16 _ _ _ ⟨u15,u16,u17,u18,rfl,rfl,rfl,rfl⟩ h35
     have h36:=h35
     simp only [ca,na] at h36
     refine nil (sr (gm rfl (ga rfl (ga rfl (nil (Run.retP rfl (.tmp rfl (.tmp rfl .nil)) ?_))))))
     cases hF
     exact Post.mk' ⟨u15,u16,u17,u18,rfl,rfl,rfl,rfl⟩ (h36.picks (.cons .z (.cons .z (.cons .z (.cons .z (.cons .z (.cons .z .nil))))))) .nil
    refine Run.skip (Run.seq ?_)
    have h37:=h33.picks (.cons (.s (.s (.s (.s .z)))) (.cons (.s (.s (.s (.s .z)))) (.cons (.s (.s (.s (.s .z)))) (.cons .z (.cons .z (.cons .z (.cons .z .nil)))))))
    obtain ⟨x3,e16,hF⟩:=Qa hF
    refine Run.drawV (Ωs:=[(false,.box 166 (Qc.repW u13 u14) qd y5.2),(false,.slice 5 (Rep.int .u8) u13 y5.2.bytes),(false,.slice 3 (Rep.int .i64) u14 y5.2.wear),(false,.lnk qd qd s3.1.d)]) [.k 98 v0,.k 99 v0,.kr 100 v0 [0],.kr 101 (padd v0 8) [0],.kr 102 u8 [0],.k 103 v0,.kr 104 v0 [0],.kr 105 (padd v0 4) [0],.kr 106 (.int .i64 s3.1.newest) [0],.fr 107 (λ u_=>[(false,.val Event_.rep u_ d1)]) [1],.f 108 (λ u_=>[(false,.val Qe.rep u_ (⟨s3.1.newest,d1⟩:Qe))]),.f 109 (λ u_=>[(false,.val (Rep.slice Qe.rep) u_ ([(⟨s3.1.newest,d1⟩:Qe)]))]),⟨some 110,none,λ u_=>[],λ ds_ u_=>[(false,.slice 200 Qe.rep u_ x3)],[2],[],none⟩] [[],[],[1],[2],[3],[],[5],[6],[7],[],[8,9],[10],[4,11]] [[(false,.box 169 (Qb.repW qd u8) v0 s3.1)],[(false,.box 55 Event_.rep u1 d1)],[(false,.slice 200 Qe.rep u8 s3.1.records)]] [0,1,3,4,5,6,7,8,9,10,11,12,13,14,15] Qi rfl rfl rfl h37 (.cons ?_ (.cons ?_ (.cons ?_ (.cons ?_ (.cons ?_ (.cons ?_ (.cons ?_ (.cons ?_ (.cons ?_ (.cons ?_ (.cons ?_ (.cons ?_ (.cons ?_ .nil))))))))))))) (λ q3 w hq3 h=>?_)
    ·intro q3 w Γx Ωx h
     refine OpS.mv rfl rfl rfl ?_
     exact du h
    ·intro q3 w Γx Ωx h
     refine OpS.mv rfl rfl rfl ?_
     exact du h
    ·intro q3 w Γx Ωx h
     refine OpS.nchk h .z rfl rfl rfl ?_
     exact du h
    ·intro q3 w Γx Ωx h
     refine OpS.fbox (o3:=8) h .z PA.z Qgv rfl rfl rfl rfl ?_
     exact du h
    ·intro q3 w Γx Ωx h
     refine OpS.loadR h .z PA.a (GetS.ok (GetS.iso _ (GetS.there (GetS.there (GetS.there (GetS.there (GetS.there (GetS.there (GetS.there (GetS.there (GetS.here GetS.id))))))))))) ty167 rfl rfl rfl rfl rfl ?_
     exact du h
    ·intro q3 w Γx Ωx h
     refine OpS.mv rfl rfl rfl ?_
     exact du h
    ·intro q3 w Γx Ωx h
     refine OpS.nchk h .z rfl rfl rfl ?_
     exact du h
    ·intro q3 w Γx Ωx h
     refine OpS.fbox (o3:=4) h .z PA.z Qer rfl rfl rfl rfl ?_
     exact du h
    ·intro q3 w Γx Ωx h
     refine OpS.loadBi h .z PA.a (GetS.ok (GetS.iso _ (GetS.there (GetS.there (GetS.there (GetS.there (GetS.here GetS.id))))))) ty3 rfl rfl rfl ?_
     exact du h
    ·intro q3 w Γx Ωx h
     refine OpS.loadB h .z PA.z Get.id ty55 rfl rfl rfl (λ u h42=>?_)
     exact ⟨u,rfl,trivial,h42⟩
    ·intro q3 w Γx Ωx h
     refine OpS.build (f:=false) (x':=(⟨s3.1.newest,d1⟩:Qe)) h pl200 ti200 Qe.zr rfl rfl rfl (.cons rfl Qe.f0 rfl V.int (.cons rfl Qe.f1 rfl (V.at .z) .nil)) (λ u h43=>?_)
     exact ⟨u,rfl,trivial,h43⟩
    ·intro q3 w Γx Ωx h
     refine OpS.lit (r:=Qe.rep) (f:=false) h Tryz.underlying167 ti200 rfl rfl rfl rfl rfl (.cons rfl (V.at .z) .nil) rfl rfl (λ u w19 h44=>?_)
     exact ⟨u,rfl,trivial,h44⟩
    ·intro q3 w Γx Ωx h
     refine OpS.app (f':=false) h .z Tryz.underlying167 ti200 rfl rfl rfl rfl rfl rfl rfl (V.at .z) (.inr Qe.pure) e16 (λ u w20 h45=>?_)
     exact ⟨u,rfl,trivial,h45⟩
    have h46:=h
    refine op (OpS.nchk h46 .z rfl rfl rfl ?_)
    refine op (OpS.fbox (o3:=8) h46 .z PA.z Qgv rfl rfl rfl rfl ?_)
    refine op (OpS.storeC (f':=false) (fr:=(Rep.raw (q3 12))) (r':=(Qb.repW qd (q3 12))) (x':=s3.1) h46 .z PA.a (Chg.iso _ (Chg.there (Chg.there (Chg.there (Chg.there (Chg.there (Chg.there (Chg.there (Chg.there (Chg.here (Chg.id (by rfl)))))))))))) (Ty.like ty167 (by rfl) (by rfl)) rfl rfl rfl (V.raw (f:=false) (St.own1 h46 (.s (.s .z))) s3.1.records) (.inr rfl) (λ w21 h47=>?_))
    refine nil (sr (gm rfl (op (OpS.nchk h47 .z rfl rfl rfl ?_))))
    refine op (OpS.fbox (o3:=6) h47 .z PA.z Qiz rfl rfl rfl rfl ?_)
    refine op (OpS.loadBi h47 .z PA.a (GetS.ok (GetS.iso _ (GetS.there (GetS.there (GetS.there (GetS.there (GetS.there (GetS.there (GetS.here GetS.id))))))))) ty3 rfl rfl rfl ?_)
    refine gb rfl (op (OpS.nchk h47 .z rfl rfl rfl ?_))
    refine op (OpS.fbox (o3:=6) h47 .z PA.z Qiz rfl rfl rfl rfl ?_)
    obtain ⟨d2,e17,hF⟩:=Qh hF
    refine op (OpS.storeC (f':=true) (fr:=(Rep.int .i64)) (r':=(Qb.repW qd (q3 12))) (x':=d2) h47 .z PA.a (Chg.of (x':={ s3.1 with used:=(IntKind.i64.wrap (s3.1.used+1)) }) (Chg.iso _ (Chg.there (Chg.there (Chg.there (Chg.there (Chg.there (Chg.there (Chg.here (Chg.id (by rfl)))))))))) e17) ty3 rfl rfl rfl V.int (.inr rfl) (λ w22 h48=>?_))
    refine nil (Run.slim [(0,v0),(3,u1)] ⟨rfl,rfl,trivial⟩ ?_)
    refine sr (gm rfl (op (OpS.fbox (o3:=0) h48 (.s .z) PA.z Qnv rfl rfl rfl rfl ?_)))
    refine op (OpS.loadBi h48 (.s .z) PA.a (Get.fld Event_.f0) ty49 rfl rfl rfl ?_)
    obtain ⟨y7,e18,hF⟩:=Qa hF
    refine op (OpS.callP h48 Tryz.func89 rfl rfl rfl rfl (vs:=[.int .u16 d1.ID]) rfl (Qib e18) .nil ?_)
    rintro _ w23 _ _ _ ⟨rfl,rfl,rfl,rfl⟩ h49
    have h50:=h49 rfl rfl
    simp only [ca,na] at h50
    refine op (OpS.nchk h50 .z rfl rfl rfl ?_)
    refine op (OpS.fbox (o3:=7) h50 .z PA.z Qjd rfl rfl rfl rfl ?_)
    obtain ⟨d3,e19,hF⟩:=Qh hF
    refine op (OpS.storeC (f':=true) (fr:=(Rep.int .u16)) (r':=(Qb.repW qd (q3 12))) (x':=d3) h50 .z PA.a (Chg.of (x':={ d2 with next:=y7 }) (Chg.iso _ (Chg.there (Chg.there (Chg.there (Chg.there (Chg.there (Chg.there (Chg.there (Chg.here (Chg.id (by rfl))))))))))) e19) ty49 rfl rfl rfl V.int (.inr rfl) (λ w24 h51=>?_))
    refine nil (sr (op (OpS.fbox (o3:=0) h51 (.s .z) PA.z Qnv rfl rfl rfl rfl ?_)))
    refine op (OpS.loadBi h51 (.s .z) PA.a (Get.fld Event_.f0) ty49 rfl rfl rfl ?_)
    refine ga rfl (ga rfl (nil ?_))
    have h52:=St.boxJ (r':=(Qb.repW qd (q3 12))) (x':={ { d3 with d:=s3.1.d } with records:=x3 }) (h51.pick .z) (λ _ _ hs_=>(Jn.iso _ (Jn.prod Jn.same (Jn.prod Jn.refl (Jn.prod Jn.refl (Jn.prod Jn.refl (Jn.prod Jn.refl (Jn.prod Jn.refl (Jn.prod Jn.refl (Jn.prod Jn.refl (Jn.prod Jn.same Jn.refl)))))))))))
    refine Run.retP rfl (.tmp rfl (.tmp rfl .nil)) ?_
    cases hF
    exact Post.mk' ⟨qd,(q3 12),u13,u14,rfl,rfl,rfl,rfl⟩ (h52.picks (.cons .z (.cons (.s (.s (.s (.s (.s .z))))) (.cons (.s .z) (.cons (.s .z) (.cons (.s .z) (.cons (.s .z) .nil))))))) .nil
   refine Run.ite rfl hF (λ e20 hF=>?_) (λ e20 hF=>?_)
   ·refine sr (gm rfl ?_)
    obtain ⟨y8,e21,hF⟩:=Qa hF
    have h53:=h9.front (.cons .z (.cons (.s (.s .z)) (.cons (.s (.s .z)) (.cons (.s .z) (.cons (.s .z) (.cons (.s .z) .nil))))))
    refine op (OpS.callO h53 Tryz.func86 rfl rfl rfl rfl (vs:=[v0]) rfl (Qld e21) rfl .nil ?_)
    rintro _ w25 _ _ _ ⟨u19,u20,u21,u22,rfl,rfl,rfl,rfl⟩ h54
    have h55:=h54
    simp only [ca,na] at h55
    refine ga rfl (nil (sr (gm rfl (gb rfl (nil ?_)))))
    refine Run.ite rfl hF (λ e22 hF=>?_) (λ e22 hF=>?_)
    ·refine sr (gm rfl ?_)
     obtain ⟨y9,e23,hF⟩:=Qa hF
     have h56:=h55.front (.cons .z (.cons .z (.cons .z (.cons .z (.cons .z (.cons .z .nil))))))
     refine op (OpS.callO h56 Tryz.func83 rfl rfl rfl rfl (vs:=[v0]) rfl (Qfa e23) rfl .nil ?_)
     rintro _ w26 _ _ _ ⟨u23,u24,u25,u26,rfl,rfl,rfl,rfl⟩ h57
     have h58:=h57
     simp only [ca,na] at h58
     refine nil (sr (gm rfl (ga rfl (ga rfl (nil (Run.retP rfl (.tmp rfl (.tmp rfl .nil)) ?_))))))
     cases hF
     exact Post.mk' ⟨u23,u24,u25,u26,rfl,rfl,rfl,rfl⟩ (h58.picks (.cons .z (.cons .z (.cons .z (.cons .z (.cons .z (.cons .z .nil))))))) .nil
    refine Run.skip (Run.slim [(0,v0),(3,u1)] ⟨rfl,rfl,trivial⟩ ?_)
    exact hj3 (y8.2.1,y8.2.2) _ _ ⟨u19,u20,u21,u22,rfl,(h55.facts .nil).picks (.cons .z (.cons (.s (.s (.s (.s (.s .z))))) (.cons (.s (.s .z)) (.cons .z (.cons .z (.cons .z (.cons .z .nil)))))))⟩ hF
   refine Run.skip (Run.slim [(0,v0),(3,u1)] ⟨rfl,rfl,trivial⟩ ?_)
   exact hj3 (y1.2.1,y1.2.2) _ _ ⟨qd,u3,u4,u5,rfl,(h9.facts .nil).picks (.cons .z (.cons .z (.cons .z (.cons .z (.cons .z (.cons .z (.cons .z .nil)))))))⟩ hF
  obtain ⟨e24,hF⟩:=Qr hF
  obtain ⟨e25,h59⟩:=St.attach (h8.pick (.s (.s (.s .z)))) e24
  subst e25
  have h60:=h59.picks (.cons .z (.cons .z (.cons (.s .z) (.cons (.s (.s .z)) (.cons (.s (.s .z)) (.cons .z (.cons .z .nil)))))))
  obtain ⟨x4,e26,hF⟩:=Qh hF
  refine Qap hF (λ e27 hF=>?_) (λ e27 hF=>?_)
  ·have hG:=hF
   subst e27
   have hF:=hG
   refine Run.drawV (Ωs:=[(false,.box 55 Event_.rep u1 a1),(false,.slice 200 Qe.rep u3 y1.2.1.records)]) [.k 21 v0,.kr 22 v0 [1],.kr 23 (padd v0 4) [1],.kr 24 (.int .i64 y1.2.1.newest) [1],.k 25 (.bool (y1.2.1.newest==0)),.k 26 (.bool true),.k 27 undef,.k 28 undef,.k 29 undef,.k 30 undef,.k 31 undef,.k 32 undef,.k 33 undef,.k 34 undef,.k 35 undef,.k 36 undef] [[],[0],[1],[2],[3],[4],[5],[5],[5],[5],[5],[5],[5],[5],[5],[5]] [[(false,.lnk qd qd y1.2.1.d)],[(false,.box 169 (Qb.repW qd u3) v0 y1.2.1)],[(false,.box 166 (Qc.repW u4 u5) qd y1.2.2)],[(false,.slice 5 (Rep.int .u8) u4 y1.2.2.bytes)],[(false,.slice 3 (Rep.int .i64) u5 y1.2.2.wear)]] [0,1,2,3,4,5,6,7,8,9,10,11,12,13,14,15,16,17,18,19,20] Qi rfl rfl rfl h60 (.cons ?_ (.cons ?_ (.cons ?_ (.cons ?_ (.cons ?_ (.cons ?_ (.cons (dp λ _=>rfl) (.cons (dp λ _=>rfl) (.cons (dp λ _=>rfl) (.cons (dp λ _=>rfl) (.cons (dp λ _=>rfl) (.cons (dp λ _=>rfl) (.cons (dp λ _=>rfl) (.cons (dp λ _=>rfl) (.cons (dp λ _=>rfl) (.cons (dp λ _=>rfl) .nil)))))))))))))))) (λ q4 w hq4 h=>?_)
   ·intro q4 w Γx Ωx h
    refine OpS.mv rfl rfl rfl ?_
    exact du h
   ·intro q4 w Γx Ωx h
    refine OpS.nchk h .z rfl rfl rfl ?_
    exact du h
   ·intro q4 w Γx Ωx h
    refine OpS.fbox (o3:=4) h .z PA.z Qer rfl rfl rfl rfl ?_
    exact du h
   ·intro q4 w Γx Ωx h
    refine OpS.loadBi h .z PA.a (GetS.ok (GetS.iso _ (GetS.there (GetS.there (GetS.there (GetS.there (GetS.here GetS.id))))))) ty3 rfl rfl rfl ?_
    exact du h
   ·intro q4 w Γx Ωx h
    refine OpS.bin rfl rfl rfl rfl rfl ?_
    exact du h
   ·intro q4 w Γx Ωx h
    refine OpS.mv rfl rfl rfl ?_
    exact ⟨undef,(congrArg (λ z_=>some (Value.bool z_)) e26),trivial,h⟩
   have h61:=h
   refine gp rfl (gk rfl (nil (Run.slim [(0,v0),(3,u1),(38,.bool true)] ⟨rfl,rfl,rfl,trivial⟩ ?_)))
   exact hj2 (true) _ _ ⟨rfl,(h61.facts .nil).picks (.cons (.s .z) (.cons (.s (.s (.s (.s .z)))) (.cons (.s .z) (.cons .z (.cons (.s (.s .z)) (.cons .z (.cons .z .nil)))))))⟩ hF
  have hG:=hF
  subst e27
  have hF:=hG
  obtain ⟨y10,e28,hF⟩:=Qa hF
  obtain ⟨y11,e29,hF⟩:=Qa hF
  refine Run.drawV (Ωs:=[(false,.box 55 Event_.rep u1 a1),(false,.slice 200 Qe.rep u3 y1.2.1.records)]) [.k 21 v0,.kr 22 v0 [1],.kr 23 (padd v0 4) [1],.kr 24 (.int .i64 y1.2.1.newest) [1],.k 25 (.bool (y1.2.1.newest==0)),.k 26 (.bool false),.k 27 v0,.kr 28 v0 [1],.kr 29 (padd v0 6) [1],.kr 30 (.int .i64 y1.2.1.used) [1],.k 31 v0,.kr 32 v0 [1],.kr 33 (padd v0 0) [1],.kr 34 qd [1,0],.kr 35 (.int .i64 y10) [2,3,4],.k 36 (.int .i64 y11)] [[],[0],[1],[2],[3],[4],[5],[6,5],[7,5],[8,5],[5],[10,5],[11,5],[12,5],[13,5],[14,5]] [[(false,.lnk qd qd y1.2.1.d)],[(false,.box 169 (Qb.repW qd u3) v0 y1.2.1)],[(false,.box 166 (Qc.repW u4 u5) qd y1.2.2)],[(false,.slice 5 (Rep.int .u8) u4 y1.2.2.bytes)],[(false,.slice 3 (Rep.int .i64) u5 y1.2.2.wear)]] [0,1,2,3,4,5,6,7,8,9,10,11,12,13,14,15,16,17,18,19,20] Qi rfl rfl rfl h60 (.cons ?_ (.cons ?_ (.cons ?_ (.cons ?_ (.cons ?_ (.cons ?_ (.cons ?_ (.cons ?_ (.cons ?_ (.cons ?_ (.cons ?_ (.cons ?_ (.cons ?_ (.cons ?_ (.cons ?_ (.cons ?_ .nil)))))))))))))))) (λ q4 w hq5 h=>?_)
  ·intro q4 w Γx Ωx h
   refine OpS.mv rfl rfl rfl ?_
   exact du h
  ·intro q4 w Γx Ωx h
   refine OpS.nchk h .z rfl rfl rfl ?_
   exact du h
  ·intro q4 w Γx Ωx h
   refine OpS.fbox (o3:=4) h .z PA.z Qer rfl rfl rfl rfl ?_
   exact du h
  ·intro q4 w Γx Ωx h
   refine OpS.loadBi h .z PA.a (GetS.ok (GetS.iso _ (GetS.there (GetS.there (GetS.there (GetS.there (GetS.here GetS.id))))))) ty3 rfl rfl rfl ?_
   exact du h
  ·intro q4 w Γx Ωx h
   refine OpS.bin rfl rfl rfl rfl rfl ?_
   exact du h
  ·intro q4 w Γx Ωx h
   refine OpS.mv rfl rfl rfl ?_
   exact ⟨undef,(congrArg (λ z_=>some (Value.bool z_)) e26),trivial,h⟩
  ·intro q4 w Γx Ωx h
   refine OpS.mv rfl rfl rfl ?_
   exact du h
  ·intro q4 w Γx Ωx h
   refine OpS.nchk h .z rfl rfl rfl ?_
   exact du h
  ·intro q4 w Γx Ωx h
   refine OpS.fbox (o3:=6) h .z PA.z Qiz rfl rfl rfl rfl ?_
   exact du h
  ·intro q4 w Γx Ωx h
   refine OpS.loadBi h .z PA.a (GetS.ok (GetS.iso _ (GetS.there (GetS.there (GetS.there (GetS.there (GetS.there (GetS.there (GetS.here GetS.id))))))))) ty3 rfl rfl rfl ?_
   exact du h
  ·intro q4 w Γx Ωx h
   refine OpS.mv rfl rfl rfl ?_
   exact du h
  ·intro q4 w Γx Ωx h
   refine OpS.nchk h .z rfl rfl rfl ?_
   exact du h
  ·intro q4 w Γx Ωx h
   refine OpS.fbox (o3:=0) h .z PA.z Qfn rfl rfl rfl rfl ?_
   exact du h
  ·intro q4 w Γx Ωx h
   refine OpS.loadR h .z PA.a (GetS.ok (GetS.iso _ (GetS.here GetS.id))) ty31 rfl rfl rfl rfl rfl ?_
   exact du h
  ·intro q4 w Γx Ωx h
   have h67:=h.front (.cons .z (.cons .z (.cons .z .nil)))
   refine OpS.callO h67 Tryz.func71 rfl rfl rfl rfl (vs:=[qd]) rfl (Qbf e28) rfl .nil ?_
   rintro _ w29 _ _ _ ⟨rfl,rfl,rfl,rfl⟩ h68
   have h69:=h68
   simp only [ca,na] at h69
   exact ⟨undef,rfl,trivial,h69⟩
  ·intro q4 w Γx Ωx h
   refine OpS.callP h Tryz.func85 rfl rfl rfl rfl (vs:=[.int .i64 y10]) rfl (Qip e29) .nil ?_
   rintro _ w30 _ _ _ ⟨rfl,rfl,rfl,rfl⟩ h70
   have h71:=h70 rfl rfl
   simp only [ca,na] at h71
   exact ⟨undef,rfl,trivial,h71⟩
  have h72:=h
  refine gb rfl (gk rfl (nil (Run.slim [(0,v0),(3,u1),(38,.bool (y1.2.1.used==y11))] ⟨rfl,rfl,rfl,trivial⟩ ?_)))
  exact hj2 (y1.2.1.used==y11) _ _ ⟨rfl,(h72.facts .nil).picks (.cons (.s .z) (.cons (.s (.s (.s (.s .z)))) (.cons (.s .z) (.cons .z (.cons (.s (.s .z)) (.cons .z (.cons .z .nil)))))))⟩ hF
 refine RunL.caseb hF (λ e30 hF=>?_) (λ e30 hF=>?_)
 ·refine gp rfl (gp rfl (gp rfl (gk rfl (nil (Run.slim [(0,v0),(3,u1),(20,.bool true)] ⟨rfl,rfl,rfl,trivial⟩ ?_)))))
  exact hj1 (true) _ _ ⟨rfl,(h7.facts .nil).picks (.cons .z (.cons (.s (.s (.s (.s (.s .z))))) (.cons (.s (.s .z)) (.cons .z (.cons .z (.cons .z (.cons .z .nil)))))))⟩ hF
 refine op (OpS.fbox (o3:=0) h7 (.s (.s (.s (.s (.s (.s .z)))))) PA.z Qnv rfl rfl rfl rfl ?_)
 refine op (OpS.loadBi h7 (.s (.s (.s (.s (.s (.s .z)))))) PA.a (Get.fld Event_.f0) ty49 rfl rfl rfl ?_)
 refine gb rfl (gk rfl (nil (Run.slim [(0,v0),(3,u1),(20,.bool (a1.ID != 0))] ⟨rfl,rfl,rfl,trivial⟩ ?_)))
 exact hj1 (a1.ID != 0) _ _ ⟨rfl,(h7.facts .nil).picks (.cons .z (.cons (.s (.s (.s (.s (.s .z))))) (.cons (.s (.s .z)) (.cons .z (.cons .z (.cons .z (.cons .z .nil)))))))⟩ hF
theorem Qhi {fuel:Nat} {a0:Qb} {y:Int} (hF:Qds fuel a0=some y) {w:World} {v0 v0_0 qd v0_1:Value} :
  Spec Tryz.prog 26 [v0].toArray w [] [(false,.box 169 (Qb.repW v0_0 v0_1) v0 a0),(false,.lnk qd v0_0 a0.d),(false,.slice 200 Qe.rep v0_1 a0.records)] (λ v Γr Ωr Ωo=>v=.int .i64 y∧Γr=[]∧Ωr=[]∧Ωo=[(false,.box 169 (Qb.repW v0_0 v0_1) v0 a0),(false,.lnk qd v0_0 a0.d),(false,(.slice 200 Qe.rep v0_1 a0.records))]):=by
 refine Spec.of (L:=[(0,v0)]) Tryz.func26 rfl ⟨rfl,trivial⟩ rfl (λ e h=>?_)
 unfold Qds at hF
 refine sr (ga rfl (nil (sr (gm rfl (op (OpS.nchk h .z rfl rfl rfl ?_))))))
 refine op (OpS.fbox (o3:=8) h .z PA.z Qgv rfl rfl rfl rfl ?_)
 refine op (OpS.loadR h .z PA.a (GetS.ok (GetS.iso _ (GetS.there (GetS.there (GetS.there (GetS.there (GetS.there (GetS.there (GetS.there (GetS.there (GetS.here GetS.id))))))))))) ty167 rfl rfl rfl rfl rfl ?_)
 refine op (OpS.lenO h (.s (.s .z)) Tryz.underlying167 rfl rfl rfl ?_)
 refine ga rfl ?_
 obtain ⟨x1,e1,hF⟩:=Qh hF
 refine RunL.name e1 ?_
 refine nil (Run.retP rfl (.tmp rfl .nil) ?_)
 cases hF
 exact Post.mk' ⟨rfl,rfl,rfl,rfl⟩ (h.picks (.cons .z (.cons .z (.cons .z .nil)))) .nil
set_option maxRecDepth 20000 in
theorem Qrm {fuel:Nat}  {y:Bool} (hF:Qju fuel =some y) {w:World} :
  Spec Tryz.prog 9 [].toArray w [GqD] [] (λ v Γr Ωr Ωo=>v=.bool y∧Γr=[]∧Ωr=[]∧Ωo=[]):=by
 refine Spec.of (L:=[]) Tryz.func9 rfl trivial rfl (λ e h=>?_)
 unfold Qju at hF
 refine sr (ga rfl (nil (sr (op (OpS.build (f:=true) (x':=(⟨1,false,1,0,0,0,[]⟩:Conversion_)) h pl69 ti69 Conversion_.zr rfl rfl rfl (.cons rfl Conversion_.f0 rfl V.int (.cons rfl Conversion_.f2 rfl V.int .nil)) (λ u1 h1=>?_))))))
 refine op (OpS.buildG (f:=true) (r:=(Rep.int .u8)) (xs:=(upd (List.replicate 6 0) (3:Int) 80)) h1 Tryz.underlying70 ti5 rfl ti70 (Zr.of (Zr.arr (Zr.int .u8 0) 6) rfl) rfl rfl (.cons (by rfl) rfl V.int .nil) (λ u2 h2=>?_))
 refine op (OpS.build (f:=true) (x':=(⟨8,(upd (List.replicate 6 0) (3:Int) 80)⟩:Thresholds_)) h2 pl72 ti72 Thresholds_.zr rfl rfl rfl (.cons rfl Thresholds_.f0 rfl V.int (.cons rfl Thresholds_.f1 rfl (V.at .z) .nil)) (λ u3 h3=>?_))
 refine op (OpS.build (f:=true) (x':=(⟨1,1,0,[116],Entity_.z,false,(⟨1,false,1,0,0,0,[]⟩:Conversion_),(⟨8,(upd (List.replicate 6 0) (3:Int) 80)⟩:Thresholds_),0,0,0,8,0,false,1⟩:Sensor_)) h3 pl74 ti74 Sensor_.zr rfl rfl rfl (.cons rfl Sensor_.f0 rfl V.int (.cons rfl Sensor_.f1 rfl V.int (.cons rfl Sensor_.f3 rfl (V.str (f:=true)) (.cons rfl Sensor_.f14 rfl V.int (.cons rfl Sensor_.f6 rfl (V.at (.s (.s .z))) (.cons rfl Sensor_.f7 rfl (V.at .z) (.cons rfl Sensor_.f11 rfl V.int .nil))))))) (λ u4 h4=>?_))
 refine op (OpS.alloc h4 ti74 Sensor_.zr rfl rfl (λ u5 w1 h5=>?_))
 refine op (OpS.storeB (f':=true) h5 .z PA.z Put.id ty74 rfl rfl rfl (V.at .z) (.inl rfl) (λ w2 h6=>?_))
 refine nil (sr (op (OpS.loadB h6 .z PA.z Get.id ty74 rfl rfl rfl (λ u6 h7=>?_))))
 refine op (OpS.lit (r:=Sensor_.rep) (f:=true) h7 Tryz.underlying27 ti74 rfl rfl rfl rfl rfl (.cons rfl (V.at .z) .nil) rfl rfl (λ u7 w3 h8=>?_))
 obtain ⟨y1,e1,hF⟩:=Qa hF
 have h9:=h8.front .nil
 refine op (OpS.callO h9 Tryz.func30 rfl rfl rfl rfl (vs:=[u7,.slice none 0 0]) rfl (Qke e1) rfl (.cons (f:=true) (V.at .z) (.cons (f:=true) V.nil .nil)) ?_)
 rintro _ w4 _ _ _ ⟨u8,rfl,rfl,rfl,rfl⟩ h10
 have h11:=h10
 simp only [ca,na] at h11
 refine gm rfl (op (OpS.ext rfl rfl rfl rfl ?_))
 refine op (OpS.ext rfl rfl rfl rfl ?_)
 refine ga rfl (ga rfl (nil (sr ?_)))
 obtain ⟨y2,e2,hF⟩:=Qa hF
 refine op (OpS.callP h11 Tryz.func13 rfl rfl rfl rfl (vs:=[.int .i64 2,.int .i64 64]) rfl (Qlw e2) .nil ?_)
 rintro _ w5 _ _ _ ⟨u9,rfl,rfl,rfl,rfl⟩ h12
 have h13:=h12 rfl rfl
 simp only [ca,na] at h13
 refine gm rfl (op (OpS.ext rfl rfl rfl rfl ?_))
 refine op (OpS.ext rfl rfl rfl rfl ?_)
 refine ga rfl (ga rfl (nil (Run.seq (sr (gm rfl (op (OpS.onilE2 h13 (.s .z) (λ _=>PtrOf.ex λ _=>PtrOf.ex λ _=>PtrOf.sep PtrOf.box) Tryz.underlying38 rfl rfl rfl rfl ?_)))))))
 refine gm rfl ?_
 refine RunL.caseb hF (λ e3 hF=>?_) (λ e3 hF=>?_)
 ·cases hF
 refine gm rfl (op (OpS.onilE2 h13 .z (λ _=>PtrOf.ex λ _=>PtrOf.ex λ _=>PtrOf.sep PtrOf.box) Tryz.underlying31 rfl rfl rfl rfl ?_))
 refine gk rfl (gm rfl ?_)
 refine RunL.caseb hF (λ e4 hF=>?_) (λ e4 hF=>?_)
 ·cases hF
 refine gm rfl (gb rfl (gk rfl (gm rfl ?_)))
 refine RunL.caseb hF (λ e5 hF=>?_) (λ e5 hF=>?_)
 ·cases hF
 refine gm rfl (gb rfl (gk rfl (nil (Run.slim [(39,.bool (y2.2 != 0)),(4,u9),(2,u8)] ⟨rfl,rfl,rfl,trivial⟩ ?_))))
 refine Run.ite rfl hF (λ e6 hF=>?_) (λ e6 hF=>?_)
 ·cases hF
 refine Run.skip (sr (gm rfl ?_))
 obtain ⟨x1,e7,hF⟩:=Qa hF
 have h14:=St.unopt (h13.pick .z) e7
 obtain ⟨u10,h15⟩:=h14.unex
 obtain ⟨u11,h16⟩:=h15.unex
 have h17:=h16.unsep
 have h18:=(h17.pick (.s .z)).unsep
 obtain ⟨y3,e8,hF⟩:=Qa hF
 have h19:=(h18.pick (.s (.s .z))).weak
 have h20:=(h19.pick (.s .z)).weak
 have h21:=(h20.pick (.s (.s .z))).weak
 have h22:=h21.front (.cons (.s (.s .z)) (.cons (.s .z) (.cons .z .nil)))
 refine op (OpS.callO h22 Tryz.func14 rfl rfl rfl rfl (vs:=[u9,.int .i64 0,.int .i64 2,.bool false]) rfl (Qgn e8) rfl .nil ?_)
 rintro _ w6 _ _ _ ⟨u12,rfl,rfl,rfl,rfl⟩ h23
 have h24:=h23
 simp only [ca,na] at h24
 refine gm rfl (op (OpS.ext rfl rfl rfl rfl ?_))
 refine op (OpS.ext rfl rfl rfl rfl ?_)
 refine ga rfl (ga rfl (nil (sr (gm rfl (op (OpS.build (f:=true) (x':=(⟨1,true,80,0⟩:Sample_)) h24 pl93 ti93 Sample_.zr rfl rfl rfl (.cons rfl Sample_.f0 rfl V.int (.cons rfl Sample_.f1 rfl V.bool (.cons rfl Sample_.f2 rfl V.int .nil))) (λ u13 h25=>?_)))))))
 refine op (OpS.lit (r:=Sample_.rep) (f:=true) h25 Tryz.underlying41 ti93 rfl rfl rfl rfl rfl (.cons rfl (V.at .z) .nil) rfl rfl (λ u14 w7 h26=>?_))
 obtain ⟨x2,e9,hF⟩:=Qa hF
 have h27:=St.unopt (h26.pick (.s (.s (.s (.s .z))))) e9
 obtain ⟨u15,h28⟩:=h27.unex
 obtain ⟨u16,h29⟩:=h28.unex
 have h30:=h29.unsep
 have h31:=(h30.pick (.s .z)).unsep
 obtain ⟨y4,e10,hF⟩:=Qa hF
 have h32:=h31.front (.cons (.s (.s .z)) (.cons .z (.cons .z .nil)))
 refine op (OpS.callO h32 Tryz.func20 rfl rfl rfl rfl (vs:=[u8,u14,.slice none 0 0,.bool true]) rfl (Qge e10) rfl (.cons (f:=true) (V.at .z) (.cons (f:=true) V.nil (.ptr (.s (.s (.s (.s (.s (.s (.s (.s .z)))))))) .nil))) ?_)
 rintro _ w8 _ _ _ ⟨u17,u18,u19,rfl,rfl,rfl,rfl⟩ h33
 have h34:=h33
 simp only [ca,na] at h34
 refine gm rfl (op (OpS.ext rfl rfl rfl rfl ?_))
 refine op (OpS.ext rfl rfl rfl rfl ?_)
 refine ga rfl ?_
 have h35:=(h34.pick .z).freeze
 refine ga rfl (nil (Run.seq (sr (gm rfl (op (OpS.onilE2 h35 (.s (.s (.s .z))) (λ _=>PtrOf.ex λ _=>PtrOf.ex λ _=>PtrOf.sep PtrOf.box) Tryz.underlying35 rfl rfl rfl rfl ?_))))))
 refine gm rfl ?_
 refine RunL.caseb hF (λ e11 hF=>?_) (λ e11 hF=>?_)
 ·cases hF
 refine gm rfl (gb rfl (gk rfl (gm rfl ?_)))
 refine RunL.caseb hF (λ e12 hF=>?_) (λ e12 hF=>?_)
 ·cases hF
 refine gm rfl (gb rfl (gk rfl (gm rfl ?_)))
 refine RunL.caseb hF (λ e13 hF=>?_) (λ e13 hF=>?_)
 ·cases hF
 refine gm rfl (op (OpS.len h35 Tryz.underlying40 rfl rfl rfl (V.at .z) ?_))
 refine gb rfl (gk rfl (nil (Run.slim [(66,.bool ((y4.1.length:Int) != 1)),(8,u17),(6,u12)] ⟨rfl,rfl,rfl,trivial⟩ ?_)))
 refine Run.ite rfl hF (λ e14 hF=>?_) (λ e14 hF=>?_)
 ·cases hF
 refine Run.skip (sr (gm rfl (gm rfl ?_)))
 obtain ⟨x3,e15,hF⟩:=Qa hF
 refine op (OpS.iptr h35 Tryz.underlying40 ty55 rfl rfl rfl rfl (V.at .z) e15 (λ u20 h36=>?_))
 refine op (OpS.load h36 ty55 rfl rfl rfl .z (λ u21 h37=>?_))
 obtain ⟨x4,e16,hF⟩:=Qa hF
 have h38:=St.unopt (h37.pick (.s (.s (.s .z)))) e16
 obtain ⟨u22,h39⟩:=h38.unex
 obtain ⟨u23,h40⟩:=h39.unex
 have h41:=h40.unsep
 have h42:=(h41.pick (.s .z)).unsep
 obtain ⟨y5,e17,hF⟩:=Qa hF
 have h43:=h42.front (.cons (.s (.s .z)) (.cons .z (.cons .z (.cons (.s (.s (.s .z))) (.cons (.s (.s (.s .z))) (.cons (.s (.s (.s .z))) .nil))))))
 refine op (OpS.callO h43 Tryz.func21 rfl rfl rfl rfl (vs:=[u12,u21]) rfl (Qhh e17) rfl (.cons (f:=true) (V.at .z) .nil) ?_)
 rintro _ w9 _ _ _ ⟨u24,u25,u26,u27,rfl,rfl,rfl,rfl⟩ h44
 have h45:=h44
 simp only [ca,na] at h45
 refine gm rfl (op (OpS.ext rfl rfl rfl rfl ?_))
 refine op (OpS.ext rfl rfl rfl rfl ?_)
 refine ga rfl (ga rfl (nil (sr (gm rfl (gb rfl (gm rfl ?_))))))
 refine RunL.caseb hF (λ e18 hF=>?_) (λ e18 hF=>?_)
 ·refine gm rfl (gb rfl (gk rfl (gm rfl ?_)))
  refine RunL.caseb hF (λ e19 hF=>?_) (λ e19 hF=>?_)
  ·refine gm rfl ?_
   obtain ⟨y6,e20,hF⟩:=Qa hF
   have h46:=h45.front (.cons .z (.cons .z (.cons .z .nil)))
   refine op (OpS.callO h46 Tryz.func26 rfl rfl rfl rfl (vs:=[u12]) rfl (Qhi e20) rfl .nil ?_)
   rintro _ w10 _ _ _ ⟨rfl,rfl,rfl,rfl⟩ h47
   have h48:=h47
   simp only [ca,na] at h48
   refine gb rfl (gk rfl (ga rfl ?_))
   obtain ⟨x5,e21,hF⟩:=Qh hF
   refine RunL.nameb e21 ?_
   refine nil (Run.retP rfl (.tmp rfl .nil) ?_)
   cases hF
   exact Post.mk' ⟨rfl,rfl,rfl,rfl⟩ (h48.picks .nil) .nil
  cases hF
 cases hF
theorem Qqu {fuel:Nat} {a0:List Int} {y:Bool} (hF:Qir fuel a0=some y) {w:World} {v0:Value} :
  Spec Tryz.prog 10 [v0].toArray w [(false,.val (Rep.slice (Rep.int .i64)) v0 a0)] [] (λ v Γr Ωr Ωo=>v=.bool y∧Γr=[]∧Ωr=[]∧Ωo=[]):=by
 refine Spec.of (L:=[(0,v0)]) Tryz.func10 rfl ⟨rfl,trivial⟩ rfl (λ e h=>?_)
 unfold Qir at hF
 refine sr (ga rfl (nil (sr (gm rfl (op (OpS.len h Tryz.underlying22 rfl rfl rfl (V.at .z) ?_))))))
 refine gb rfl (ga rfl ?_)
 obtain ⟨x1,e1,hF⟩:=Qh hF
 refine RunL.nameb e1 ?_
 refine nil (Run.retP rfl (.tmp rfl .nil) ?_)
 cases hF
 exact Post.mk' ⟨rfl,rfl,rfl,rfl⟩ (h.picks .nil) .nil
theorem Qjf {fuel:Nat} {a0:List Int} {y:Qg} (hF:Qia fuel a0=some y) {w:World} {v0:Value} :
  Spec Tryz.prog 12 [v0].toArray w [(false,.val (Rep.slice (Rep.int .i64)) v0 a0)] [] (λ v Γr Ωr Ωo=>∃ u0:Value,v=u0∧Γr=[]∧Ωr=[(false,.box 163 Qg.rep u0 y)]∧Ωo=[]):=by
 refine Spec.of (L:=[(0,v0)]) Tryz.func12 rfl ⟨rfl,trivial⟩ rfl (λ e h=>?_)
 unfold Qia at hF
 refine sr (ga rfl (nil (sr (gm rfl (op (OpS.build (f:=false) (x':=(⟨a0,0⟩:Qg)) h pl163 ti163 Qg.zr rfl rfl rfl (.cons rfl Qg.f0 rfl (V.at .z) .nil) (λ u1 h1=>?_)))))))
 refine op (OpS.boxF h1 rfl rfl rfl (V.at .z) (λ u2 w1 h2=>?_))
 refine ga rfl (nil (Run.retP rfl (.tmp rfl .nil) ?_))
 cases hF
 exact Post.mk' ⟨u2,rfl,rfl,rfl,rfl⟩ (h2.picks (.cons .z .nil)) .nil
theorem Qmi {fuel:Nat} {a0:Int} {a1:Int} {y:Int} (hF:Qhn fuel a0 a1=some y) {w:World} :
  Spec Tryz.prog 19 [.int .i64 a0,.int .i64 a1].toArray w [] [] (λ v Γr Ωr Ωo=>v=.int .i64 y∧Γr=[]∧Ωr=[]∧Ωo=[]):=by
 refine Spec.of (L:=[(0,.int .i64 a0),(1,.int .i64 a1)]) Tryz.func19 rfl ⟨rfl,rfl,trivial⟩ rfl (λ e h=>?_)
 unfold Qhn at hF
 refine sr (ga rfl (nil (sr (gm rfl (gm rfl ?_)))))
 obtain ⟨e1,hF⟩:=Qr hF
 refine op (OpS.rem rfl rfl rfl rfl e1 ?_)
 refine ga rfl (nil (Run.seq (sr (gm rfl (gb rfl (nil ?_))))))
 refine Run.ite rfl hF (λ e2 hF=>?_) (λ e2 hF=>?_)
 ·refine Run.reg (gm rfl (gm rfl (gb rfl (ga rfl ?_))))
  obtain ⟨x1,e3,hF⟩:=Qh hF
  refine RunL.name e3 ?_
  refine nil (sr (gm rfl (ga rfl (nil (Run.retP rfl (.tmp rfl .nil) ?_)))))
  cases hF
  exact Post.mk' ⟨rfl,rfl,rfl,rfl⟩ (h.picks .nil) .nil
 refine Run.skip (sr (gm rfl (ga rfl (nil (Run.retP rfl (.tmp rfl .nil) ?_)))))
 cases hF
 exact Post.mk' ⟨rfl,rfl,rfl,rfl⟩ (h.picks .nil) .nil
set_option maxRecDepth 20000 in
theorem Qj {fuel:Nat} {a0:Qg} {a1:Int} {y:Int×Qg} (hF:Qk fuel a0 a1=some y) {w:World} {v0:Value} :
  Spec Tryz.prog 54 [v0,.int .i64 a1].toArray w [] [(false,.box 163 Qg.rep v0 a0)] (λ v Γr Ωr Ωo=>v=.int .i64 y.1∧Γr=[]∧Ωr=[]∧Ωo=[(false,.box 163 Qg.rep v0 y.2)]):=by
 refine Spec.of (L:=[(0,v0),(1,.int .i64 a1)]) Tryz.func54 rfl ⟨rfl,rfl,trivial⟩ rfl (λ e h=>?_)
 unfold Qk at hF
 refine sr (ga rfl (nil (Run.seq (Run.seq ?_))))
 refine Run.drawV (Ωs:=[]) [.k 5 v0,.kr 6 v0 [0],.kr 7 (padd v0 1) [0],.kr 8 (.int .i64 a0.At) [0],.k 9 v0,.kr 10 v0 [0],.kr 11 (padd v0 0) [0],.fr 12 (λ u_=>[(false,.val (Rep.slice (Rep.int .i64)) u_ a0.L)]) [0],.k 13 (.int .i64 (a0.L.length:Int))] [[],[0],[1],[2],[],[4],[5],[6],[7]] [[(false,.box 163 Qg.rep v0 a0)]] [0,1,2,3,4,5,6,7,8,9] Qi rfl rfl rfl h (.cons ?_ (.cons ?_ (.cons ?_ (.cons ?_ (.cons ?_ (.cons ?_ (.cons ?_ (.cons ?_ (.cons ?_ .nil))))))))) (λ q1 w hq1 h=>?_)
 ·intro q1 w Γx Ωx h
  refine OpS.mv rfl rfl rfl ?_
  exact du h
 ·intro q1 w Γx Ωx h
  refine OpS.nchk h .z rfl rfl rfl ?_
  exact du h
 ·intro q1 w Γx Ωx h
  refine OpS.fbox (o3:=1) h .z PA.z Qot rfl rfl rfl rfl ?_
  exact du h
 ·intro q1 w Γx Ωx h
  refine OpS.loadBi h .z PA.a (Get.fld Qg.f1) ty3 rfl rfl rfl ?_
  exact du h
 ·intro q1 w Γx Ωx h
  refine OpS.mv rfl rfl rfl ?_
  exact du h
 ·intro q1 w Γx Ωx h
  refine OpS.nchk h .z rfl rfl rfl ?_
  exact du h
 ·intro q1 w Γx Ωx h
  refine OpS.fbox (o3:=0) h .z PA.z Qsx rfl rfl rfl rfl ?_
  exact du h
 ·intro q1 w Γx Ωx h
  refine OpS.loadB h .z PA.a (Get.fld Qg.f0) ty22 rfl rfl rfl (λ u h2=>?_)
  exact ⟨u,rfl,trivial,h2⟩
 ·intro q1 w Γx Ωx h
  refine OpS.len h Tryz.underlying22 rfl rfl rfl (V.at .z) ?_
  exact du h
 have h3:=h
 refine gb rfl (nil ?_)
 refine Run.ite rfl hF (λ e1 hF=>?_) (λ e1 hF=>?_)
 ·refine sr (ga rfl (nil (Run.retP rfl (.tmp rfl .nil) ?_)))
  cases hF
  exact Post.mk' ⟨rfl,rfl,rfl,rfl⟩ (h3.picks (.cons .z .nil)) .nil
 refine Run.skip (sr (gm rfl (op (OpS.nchk h3 .z rfl rfl rfl ?_))))
 refine op (OpS.fbox (o3:=1) h3 .z PA.z Qot rfl rfl rfl rfl ?_)
 refine op (OpS.loadBi h3 .z PA.a (Get.fld Qg.f1) ty3 rfl rfl rfl ?_)
 refine gb rfl (op (OpS.nchk h3 .z rfl rfl rfl ?_))
 refine op (OpS.fbox (o3:=1) h3 .z PA.z Qot rfl rfl rfl rfl ?_)
 obtain ⟨d1,e2,hF⟩:=Qh hF
 refine op (OpS.storeB (f':=true) h3 .z PA.a (Put.of (Put.fld Qg.f1) e2) ty3 rfl rfl rfl V.int (.inr rfl) (λ w1 h4=>?_))
 refine nil (Run.seq ?_)
 obtain ⟨x1,e3,hF⟩:=Qa hF
 refine Run.drawV (Ωs:=[]) [.k 22 v0,.kr 23 v0 [0],.kr 24 (padd v0 0) [0],.fr 25 (λ u_=>[(false,.val (Rep.slice (Rep.int .i64)) u_ d1.L)]) [0],.k 26 v0,.kr 27 v0 [0],.kr 28 (padd v0 1) [0],.kr 29 (.int .i64 d1.At) [0],.k 30 (.int .i64 (IntKind.i64.wrap (d1.At-1))),.f 31 (λ u_=>[(false,.ptr (Rep.int .i64) u_ x1)]),.k 32 (.int .i64 x1),.k 33 (.int .i64 a1)] [[],[0],[1],[2],[],[4],[5],[6],[7],[3,8],[9],[]] [[(false,.box 163 Qg.rep v0 d1)]] [0,1,2,3,4,5,6,7,8,9,10,11,12] Qi rfl rfl rfl h4 (.cons ?_ (.cons ?_ (.cons ?_ (.cons ?_ (.cons ?_ (.cons ?_ (.cons ?_ (.cons ?_ (.cons ?_ (.cons ?_ (.cons ?_ (.cons ?_ .nil)))))))))))) (λ q2 w hq2 h=>?_)
 ·intro q2 w Γx Ωx h
  refine OpS.mv rfl rfl rfl ?_
  exact du h
 ·intro q2 w Γx Ωx h
  refine OpS.nchk h .z rfl rfl rfl ?_
  exact du h
 ·intro q2 w Γx Ωx h
  refine OpS.fbox (o3:=0) h .z PA.z Qsx rfl rfl rfl rfl ?_
  exact du h
 ·intro q2 w Γx Ωx h
  refine OpS.loadB h .z PA.a (Get.fld Qg.f0) ty22 rfl rfl rfl (λ u h7=>?_)
  exact ⟨u,rfl,trivial,h7⟩
 ·intro q2 w Γx Ωx h
  refine OpS.mv rfl rfl rfl ?_
  exact du h
 ·intro q2 w Γx Ωx h
  refine OpS.nchk h .z rfl rfl rfl ?_
  exact du h
 ·intro q2 w Γx Ωx h
  refine OpS.fbox (o3:=1) h .z PA.z Qot rfl rfl rfl rfl ?_
  exact du h
 ·intro q2 w Γx Ωx h
  refine OpS.loadBi h .z PA.a (Get.fld Qg.f1) ty3 rfl rfl rfl ?_
  exact du h
 ·intro q2 w Γx Ωx h
  refine OpS.bin rfl rfl rfl rfl rfl ?_
  exact du h
 ·intro q2 w Γx Ωx h
  refine OpS.iptr h Tryz.underlying22 ty3 rfl rfl rfl rfl (V.at .z) e3 (λ u h8=>?_)
  exact ⟨u,rfl,trivial,h8⟩
 ·intro q2 w Γx Ωx h
  refine OpS.loadi h ty3 rfl rfl rfl .z ?_
  exact du h
 ·intro q2 w Γx Ωx h
  refine OpS.mv rfl rfl rfl ?_
  exact du h
 have h9:=h
 obtain ⟨y1,e4,hF⟩:=Qa hF
 refine op (OpS.callP h9 Tryz.func19 rfl rfl rfl rfl (vs:=[.int .i64 x1,.int .i64 a1]) rfl (Qmi e4) .nil ?_)
 rintro _ w2 _ _ _ ⟨rfl,rfl,rfl,rfl⟩ h10
 have h11:=h10 rfl rfl
 simp only [ca,na] at h11
 refine ga rfl (nil (Run.slim [(4,.int .i64 y1)] ⟨rfl,trivial⟩ ?_))
 refine Run.retP rfl (.tmp rfl .nil) ?_
 cases hF
 exact Post.mk' ⟨rfl,rfl,rfl,rfl⟩ (h11.picks (.cons .z .nil)) .nil
theorem Qah {fuel:Nat} {a0:Qg} {a1:Int} {y:Bool×Qg} (hF:Qaf fuel a0 a1=some y) {w:World} {v0:Value} :
  Spec Tryz.prog 31 [v0,.int .i64 a1].toArray w [] [(false,.box 163 Qg.rep v0 a0)] (λ v Γr Ωr Ωo=>v=.bool y.1∧Γr=[]∧Ωr=[]∧Ωo=[(false,.box 163 Qg.rep v0 y.2)]):=by
 refine Spec.of (L:=[(0,v0),(1,.int .i64 a1)]) Tryz.func31 rfl ⟨rfl,rfl,trivial⟩ rfl (λ e h=>?_)
 unfold Qaf at hF
 refine sr (ga rfl (nil (sr (gm rfl (gm rfl ?_)))))
 obtain ⟨y1,e1,hF⟩:=Qa hF
 have h1:=h.front (.cons .z .nil)
 refine op (OpS.callO h1 Tryz.func54 rfl rfl rfl rfl (vs:=[v0,.int .i64 a1]) rfl (Qj e1) rfl .nil ?_)
 rintro _ w1 _ _ _ ⟨rfl,rfl,rfl,rfl⟩ h2
 have h3:=h2
 simp only [ca,na] at h3
 refine gm rfl (gb rfl (gb rfl (ga rfl ?_)))
 obtain ⟨x1,e2,hF⟩:=Qh hF
 refine RunL.nameb e2 ?_
 refine nil (Run.retP rfl (.tmp rfl .nil) ?_)
 cases hF
 exact Post.mk' ⟨rfl,rfl,rfl,rfl⟩ (h3.picks (.cons .z .nil)) .nil
theorem Qdd {fuel:Nat} {a0:Qg} {y:Int×Qg} (hF:Qbg fuel a0=some y) {w:World} {v0:Value} :
  Spec Tryz.prog 76 [v0].toArray w [] [(false,.box 163 Qg.rep v0 a0)] (λ v Γr Ωr Ωo=>v=.int .u8 y.1∧Γr=[]∧Ωr=[]∧Ωo=[(false,.box 163 Qg.rep v0 y.2)]):=by
 refine Spec.of (L:=[(0,v0)]) Tryz.func76 rfl ⟨rfl,trivial⟩ rfl (λ e h=>?_)
 unfold Qbg at hF
 refine sr (ga rfl (nil (sr (op (OpS.buildA (f:=true) (r:=(Rep.int .u8)) h Tryz.underlying279 ti5 rfl ti279 rfl rfl rfl (.cons rfl V.int (.cons rfl V.int (.cons rfl V.int (.cons rfl V.int (.cons rfl V.int (.cons rfl V.int (.cons rfl V.int (.cons rfl V.int .nil)))))))) rfl (λ u1 h1=>?_))))))
 refine op (OpS.alloc h1 ti279 (Zr.of (Zr.arr (Zr.int .u8 0) 8) rfl) rfl rfl (λ u2 w1 h2=>?_))
 obtain ⟨d1,e1,hF⟩:=Qh hF
 refine op (OpS.storeB (f':=true) h2 .z PA.z (Put.of Put.id e1) ty279 rfl rfl rfl (V.at .z) (.inl rfl) (λ w2 h3=>?_))
 refine nil (Run.seq (sr (gm rfl ?_)))
 obtain ⟨y1,e2,hF⟩:=Qa hF
 have h4:=h3.front (.cons (.s .z) .nil)
 refine op (OpS.callO h4 Tryz.func31 rfl rfl rfl rfl (vs:=[v0,.int .i64 3]) rfl (Qah e2) rfl .nil ?_)
 rintro _ w3 _ _ _ ⟨rfl,rfl,rfl,rfl⟩ h5
 have h6:=h5
 simp only [ca,na] at h6
 refine nil ?_
 refine Run.ite rfl hF (λ e3 hF=>?_) (λ e3 hF=>?_)
 ·refine sr (gm rfl ?_)
  obtain ⟨y2,e4,hF⟩:=Qa hF
  have h7:=h6.front (.cons .z .nil)
  refine op (OpS.callO h7 Tryz.func54 rfl rfl rfl rfl (vs:=[v0,.int .i64 8]) rfl (Qj e4) rfl .nil ?_)
  rintro _ w4 _ _ _ ⟨rfl,rfl,rfl,rfl⟩ h8
  have h9:=h8
  simp only [ca,na] at h9
  obtain ⟨x1,e5,hF⟩:=Qa hF
  obtain ⟨e6,hF⟩:=Qr hF
  refine op (OpS.ibox h9 (.s .z) PA.z Tryz.underlying279 ty5 (Nat.eq_of_beq_eq_true e6) rfl rfl rfl rfl e5 ?_)
  refine op (OpS.loadBi h9 (.s .z) PA.a (Get.comp Get.id (Get.arr e5)) ty5 rfl rfl rfl ?_)
  refine ga rfl (nil (Run.retP rfl (.tmp rfl .nil) ?_))
  cases hF
  exact Post.mk' ⟨rfl,rfl,rfl,rfl⟩ (h9.picks (.cons .z .nil)) .nil
 refine Run.skip (sr (gm rfl ?_))
 obtain ⟨y3,e7,hF⟩:=Qa hF
 have h10:=h6.front (.cons .z .nil)
 refine op (OpS.callO h10 Tryz.func54 rfl rfl rfl rfl (vs:=[v0,.int .i64 256]) rfl (Qj e7) rfl .nil ?_)
 rintro _ w5 _ _ _ ⟨rfl,rfl,rfl,rfl⟩ h11
 have h12:=h11
 simp only [ca,na] at h12
 refine op (OpS.conv Tryz.underlying3 Tryz.underlying5 rfl rfl rfl ?_)
 refine ga rfl (nil (Run.retP rfl (.tmp rfl .nil) ?_))
 cases hF
 exact Post.mk' ⟨rfl,rfl,rfl,rfl⟩ (h12.picks (.cons .z .nil)) .nil
set_option maxRecDepth 20000 in
theorem Qmh {fuel:Nat} {a0:Qg} {a1:List Int} {a2:Int} {y:(List Int)×Qg} (hF:Qep fuel a0 a1 a2=some y) {w:World} {v0 v1:Value} :
  Spec Tryz.prog 170 [v0,v1,.int .i64 a2].toArray w [(false,.val Rep.str v1 a1)] [(false,.box 163 Qg.rep v0 a0)] (λ v Γr Ωr Ωo=>∃ u0:Value,v=u0∧Γr=[(true,.val Rep.str u0 y.1)]∧Ωr=[]∧Ωo=[(false,.box 163 Qg.rep v0 y.2)]):=by
 refine Spec.of (L:=[(0,v0),(1,v1),(2,.int .i64 a2)]) Tryz.func170 rfl ⟨rfl,rfl,rfl,trivial⟩ rfl (λ e h=>?_)
 unfold Qep at hF
 refine sr (ga rfl (nil (sr (ga rfl (nil (Run.seq (sr (ga rfl (nil (Run.block (Run.slim [(0,v0),(1,v1),(2,.int .i64 a2),(7,(.string ⟨#[]⟩)),(8,.int .i64 0)] ⟨rfl,rfl,rfl,rfl,rfl,trivial⟩ ?_)))))))))))
 refine Run.loopP (σ:=((List Int)×Int×Qg)) (λ s_ L_ w_=>∃ u0_:Value,L_=[(0,v0),(1,v1),(2,.int .i64 a2),(7,u0_),(8,.int .i64 s_.2.1)]∧St e w_ [(false,.val Rep.str v1 a1),(true,.val Rep.str u0_ s_.1)] [(false,.box 163 Qg.rep v0 s_.2.2)]) hF ⟨(.string ⟨#[]⟩),rfl,(h.facts (.atm .z (.val (V.str (f:=true)) .nil))).picks (.cons .z .nil)⟩ (λ k1 hk1 s1 _ w1 hI hF=>?_)
 obtain ⟨u1,rfl,h1⟩:=hI
 refine Run.seq (sr (gm rfl (gm rfl (gb rfl (nil ?_)))))
 refine Run.ite rfl hF (λ e1 hF=>?_) (λ e1 hF=>?_)
 ·refine Run.skip (Run.seq (Run.block (sr (gm rfl (gm rfl (op (OpS.lenS h1 Tryz.underlying9 rfl rfl rfl (V.at .z) ?_)))))))
  obtain ⟨y1,e2,hF⟩:=Qa hF
  have h2:=h1.front (.cons .z .nil)
  refine op (OpS.callO h2 Tryz.func54 rfl rfl rfl rfl (vs:=[v0,.int .i64 (a1.length:Int)]) rfl (Qj e2) rfl .nil ?_)
  rintro _ w2 _ _ _ ⟨rfl,rfl,rfl,rfl⟩ h3
  have h4:=h3
  simp only [ca,na] at h4
  refine ga rfl (nil (Run.reg (gm rfl (gm rfl (gm rfl (gm rfl (gb rfl ?_)))))))
  obtain ⟨x1,e3,hF⟩:=Qa hF
  refine op (OpS.ssub h4 Tryz.underlying9 rfl rfl rfl rfl rfl (V.at .z) e3 (λ u2 h5=>?_))
  obtain ⟨x2,e4,hF⟩:=Qa hF
  refine op (OpS.cats h5 rfl rfl rfl rfl (V.at (.s (.s .z))) (V.at .z) e4 (λ u3 h6=>?_))
  refine ga rfl (nil (Run.endBlock (Run.reg (gm rfl (gb rfl (ga rfl ?_))))))
  obtain ⟨x3,e5,hF⟩:=Qh hF
  refine RunL.name e5 ?_
  refine nil (Run.slim [(0,v0),(1,v1),(2,.int .i64 a2),(7,u3),(8,.int .i64 x3)] ⟨rfl,rfl,rfl,rfl,rfl,trivial⟩ ?_)
  exact hk1 (x2,x3,y1.2) _ _ ⟨u3,rfl,(h6.facts (.atm (.s (.s .z)) (.val (V.at .z) .nil))).picks (.cons .z .nil)⟩ hF
 refine Run.exit rfl ?_
 refine sr (gm rfl (ga rfl (nil (Run.retP rfl (.tmp rfl .nil) ?_))))
 cases hF
 exact Post.mk' ⟨u1,rfl,rfl,rfl,rfl⟩ (h1.picks (.cons .z .nil)) (.val (V.at (.s .z)) .nil)
theorem Qhj {fuel:Nat} {a0:Qg} {y:Entity_×Qg} (hF:Qbb fuel a0=some y) {w:World} {v0:Value} :
  Spec Tryz.prog 32 [v0].toArray w [] [(false,.box 163 Qg.rep v0 a0)] (λ v Γr Ωr Ωo=>∃ u0:Value,v=u0∧Γr=[(true,.val Entity_.rep u0 y.1)]∧Ωr=[]∧Ωo=[(false,.box 163 Qg.rep v0 y.2)]):=by
 refine Spec.of (L:=[(0,v0)]) Tryz.func32 rfl ⟨rfl,trivial⟩ rfl (λ e h=>?_)
 unfold Qbb at hF
 refine sr (op (OpS.alloc h ti66 Entity_.zr rfl rfl (λ u1 w1 h1=>?_)))
 refine nil (sr (gm rfl ?_))
 obtain ⟨y1,e1,hF⟩:=Qa hF
 have h2:=h1.front (.cons (.s .z) .nil)
 refine op (OpS.callO h2 Tryz.func54 rfl rfl rfl rfl (vs:=[v0,.int .i64 4]) rfl (Qj e1) rfl .nil ?_)
 rintro _ w2 _ _ _ ⟨rfl,rfl,rfl,rfl⟩ h3
 have h4:=h3
 simp only [ca,na] at h4
 refine gb rfl (op (OpS.conv Tryz.underlying3 Tryz.underlying5 rfl rfl rfl ?_))
 refine gm rfl ?_
 obtain ⟨y2,e2,hF⟩:=Qa hF
 have h5:=h4.front (.cons .z .nil)
 refine op (OpS.callO h5 Tryz.func54 rfl rfl rfl rfl (vs:=[v0,.int .i64 2]) rfl (Qj e2) rfl .nil ?_)
 rintro _ w3 _ _ _ ⟨rfl,rfl,rfl,rfl⟩ h6
 have h7:=h6
 simp only [ca,na] at h7
 refine op (OpS.conv Tryz.underlying3 Tryz.underlying5 rfl rfl rfl ?_)
 refine op (OpS.build (f:=true) (x':=(⟨(IntKind.u8.wrap (IntKind.i64.wrap (1+y1.1))),(IntKind.u8.wrap y2.1)⟩:Entity_)) h7 pl66 ti66 Entity_.zr rfl rfl rfl (.cons rfl Entity_.f0 rfl V.int (.cons rfl Entity_.f1 rfl V.int .nil)) (λ u2 h8=>?_))
 refine op (OpS.storeB (f':=true) h8 (.s .z) PA.z Put.id ty66 rfl rfl rfl (V.at .z) (.inl rfl) (λ w4 h9=>?_))
 refine nil ?_
 obtain ⟨u3,hu1,h10⟩:=Qaq h9 .z ty66
 refine Run.retP rfl (.cell rfl hu1 .nil) ?_
 cases hF
 exact Post.mk' ⟨u3,rfl,rfl,rfl,rfl⟩ (h10.picks (.cons (.s .z) .nil)) (.val (V.at .z) .nil)
theorem Qkd {fuel:Nat} {a0:Bool} {y:Int} (hF:Qgi fuel a0=some y) {w:World} :
  Spec Tryz.prog 222 [.bool a0].toArray w [] [] (λ v Γr Ωr Ωo=>v=.int .i64 y∧Γr=[]∧Ωr=[]∧Ωo=[]):=by
 refine Spec.of (L:=[(0,.bool a0)]) Tryz.func222 rfl ⟨rfl,trivial⟩ rfl (λ e h=>?_)
 unfold Qgi at hF
 refine sr (ga rfl (nil (Run.seq (sr (gm rfl (nil ?_))))))
 refine Run.ite rfl hF (λ e1 hF=>?_) (λ e1 hF=>?_)
 ·refine sr (ga rfl (nil (Run.retP rfl (.tmp rfl .nil) ?_)))
  cases hF
  exact Post.mk' ⟨rfl,rfl,rfl,rfl⟩ (h.picks .nil) .nil
 refine Run.skip (sr (ga rfl (nil (Run.retP rfl (.tmp rfl .nil) ?_))))
 cases hF
 exact Post.mk' ⟨rfl,rfl,rfl,rfl⟩ (h.picks .nil) .nil
theorem Qlu {fuel:Nat} {a0:Int} {y:Int} (hF:Qgs fuel a0=some y) {w:World} :
  Spec Tryz.prog 223 [.int .i64 a0].toArray w [] [] (λ v Γr Ωr Ωo=>v=.int .u8 y∧Γr=[]∧Ωr=[]∧Ωo=[]):=by
 refine Spec.of (L:=[(0,.int .i64 a0)]) Tryz.func223 rfl ⟨rfl,trivial⟩ rfl (λ e h=>?_)
 unfold Qgs at hF
 refine sr (ga rfl (nil (sr (gm rfl (gb rfl (op (OpS.rem rfl rfl rfl rfl (by decide) ?_)))))))
 refine op (OpS.conv Tryz.underlying3 Tryz.underlying5 rfl rfl rfl ?_)
 refine ga rfl ?_
 obtain ⟨x1,e1,hF⟩:=Qh hF
 refine RunL.name e1 ?_
 refine nil (Run.retP rfl (.tmp rfl .nil) ?_)
 cases hF
 exact Post.mk' ⟨rfl,rfl,rfl,rfl⟩ (h.picks .nil) .nil
theorem Qls {fuel:Nat} {a0:Qg} {y:Int×Qg} (hF:Qej fuel a0=some y) {w:World} {v0:Value} :
  Spec Tryz.prog 224 [v0].toArray w [] [(false,.box 163 Qg.rep v0 a0)] (λ v Γr Ωr Ωo=>v=.int .i64 y.1∧Γr=[]∧Ωr=[]∧Ωo=[(false,.box 163 Qg.rep v0 y.2)]):=by
 refine Spec.of (L:=[(0,v0)]) Tryz.func224 rfl ⟨rfl,trivial⟩ rfl (λ e h=>?_)
 unfold Qej at hF
 refine sr (ga rfl (nil (sr (op (OpS.buildA (f:=true) (r:=(Rep.int .i64)) h Tryz.underlying366 ti2 rfl ti366 rfl rfl rfl (.cons rfl V.int (.cons rfl V.int (.cons rfl V.int (.cons rfl V.int (.cons rfl V.int (.cons rfl V.int (.cons rfl V.int (.cons rfl V.int .nil)))))))) rfl (λ u1 h1=>?_))))))
 refine op (OpS.alloc h1 ti366 (Zr.of (Zr.arr (Zr.int .i64 0) 8) rfl) rfl rfl (λ u2 w1 h2=>?_))
 obtain ⟨d1,e1,hF⟩:=Qh hF
 refine op (OpS.storeB (f':=true) h2 .z PA.z (Put.of Put.id e1) ty366 rfl rfl rfl (V.at .z) (.inl rfl) (λ w2 h3=>?_))
 refine nil (Run.seq (sr (gm rfl ?_)))
 obtain ⟨y1,e2,hF⟩:=Qa hF
 have h4:=h3.front (.cons (.s .z) .nil)
 refine op (OpS.callO h4 Tryz.func54 rfl rfl rfl rfl (vs:=[v0,.int .i64 3]) rfl (Qj e2) rfl .nil ?_)
 rintro _ w3 _ _ _ ⟨rfl,rfl,rfl,rfl⟩ h5
 have h6:=h5
 simp only [ca,na] at h6
 refine nil (Run.block (sr (gb rfl (ga rfl ?_))))
 obtain ⟨x1,e3,hF⟩:=Qh hF
 refine RunL.nameb e3 ?_
 refine nil ?_
 refine Run.ite rfl hF (λ e4 hF=>?_) (λ e4 hF=>?_)
 ·refine sr (gm rfl ?_)
  obtain ⟨y2,e5,hF⟩:=Qa hF
  have h7:=h6.front (.cons .z .nil)
  refine op (OpS.callO h7 Tryz.func54 rfl rfl rfl rfl (vs:=[v0,.int .i64 8]) rfl (Qj e5) rfl .nil ?_)
  rintro _ w4 _ _ _ ⟨rfl,rfl,rfl,rfl⟩ h8
  have h9:=h8
  simp only [ca,na] at h9
  obtain ⟨x2,e6,hF⟩:=Qa hF
  obtain ⟨e7,hF⟩:=Qr hF
  refine op (OpS.ibox h9 (.s .z) PA.z Tryz.underlying366 ty2 (Nat.eq_of_beq_eq_true e7) rfl rfl rfl rfl e6 ?_)
  refine op (OpS.loadBi h9 (.s .z) PA.a (Get.comp Get.id (Get.arr e6)) ty2 rfl rfl rfl ?_)
  refine ga rfl (nil (Run.retP rfl (.tmp rfl .nil) ?_))
  cases hF
  exact Post.mk' ⟨rfl,rfl,rfl,rfl⟩ (h9.picks (.cons .z .nil)) .nil
 refine sr (gb rfl (ga rfl ?_))
 obtain ⟨x3,e8,hF⟩:=Qh hF
 refine RunL.nameb e8 ?_
 refine nil ?_
 refine Run.ite rfl hF (λ e9 hF=>?_) (λ e9 hF=>?_)
 ·refine sr (gm rfl ?_)
  obtain ⟨y3,e10,hF⟩:=Qa hF
  have h10:=h6.front (.cons .z .nil)
  refine op (OpS.callO h10 Tryz.func54 rfl rfl rfl rfl (vs:=[v0,.int .i64 2000001]) rfl (Qj e10) rfl .nil ?_)
  rintro _ w5 _ _ _ ⟨rfl,rfl,rfl,rfl⟩ h11
  have h12:=h11
  simp only [ca,na] at h12
  refine gb rfl (ga rfl ?_)
  obtain ⟨x4,e11,hF⟩:=Qh hF
  refine RunL.name e11 ?_
  refine nil (Run.retP rfl (.tmp rfl .nil) ?_)
  cases hF
  exact Post.mk' ⟨rfl,rfl,rfl,rfl⟩ (h12.picks (.cons .z .nil)) .nil
 refine Run.skip (Run.endBlock (sr (gm rfl ?_)))
 obtain ⟨y4,e12,hF⟩:=Qa hF
 have h13:=h6.front (.cons .z .nil)
 refine op (OpS.callO h13 Tryz.func54 rfl rfl rfl rfl (vs:=[v0,.int .i64 2000001]) rfl (Qj e12) rfl .nil ?_)
 rintro _ w6 _ _ _ ⟨rfl,rfl,rfl,rfl⟩ h14
 have h15:=h14
 simp only [ca,na] at h15
 refine gb rfl (gb rfl (gm rfl ?_))
 obtain ⟨y5,e13,hF⟩:=Qa hF
 have h16:=h15.front (.cons .z .nil)
 refine op (OpS.callO h16 Tryz.func54 rfl rfl rfl rfl (vs:=[v0,.int .i64 1000]) rfl (Qj e13) rfl .nil ?_)
 rintro _ w7 _ _ _ ⟨rfl,rfl,rfl,rfl⟩ h17
 have h18:=h17
 simp only [ca,na] at h18
 refine gb rfl (gb rfl (ga rfl ?_))
 obtain ⟨x5,e14,hF⟩:=Qh hF
 refine RunL.name e14 ?_
 refine nil (Run.retP rfl (.tmp rfl .nil) ?_)
 cases hF
 exact Post.mk' ⟨rfl,rfl,rfl,rfl⟩ (h18.picks (.cons .z .nil)) .nil
set_option maxHeartbeats 8000000 in set_option maxRecDepth 20000 in
theorem Qjs {fuel:Nat} {a0:Qg} {y:Conversion_×Qg} (hF:Qce fuel a0=some y) {w:World} {v0:Value} :
  Spec Tryz.prog 171 [v0].toArray w [] [(false,.box 163 Qg.rep v0 a0)] (λ v Γr Ωr Ωo=>∃ u0:Value,v=u0∧Γr=[(true,.val Conversion_.rep u0 y.1)]∧Ωr=[]∧Ωo=[(false,.box 163 Qg.rep v0 y.2)]):=by
 refine Spec.of (L:=[(0,v0)]) Tryz.func171 rfl ⟨rfl,trivial⟩ rfl (λ e h=>?_)
 unfold Qce at hF
 refine sr (op (OpS.alloc h ti69 Conversion_.zr rfl rfl (λ u1 w1 h1=>?_)))
 refine nil (sr (gm rfl ?_))
 obtain ⟨y1,e1,hF⟩:=Qa hF
 have h2:=h1.front (.cons (.s .z) .nil)
 refine op (OpS.callO h2 Tryz.func54 rfl rfl rfl rfl (vs:=[v0,.int .i64 5]) rfl (Qj e1) rfl .nil ?_)
 rintro _ w2 _ _ _ ⟨rfl,rfl,rfl,rfl⟩ h3
 have h4:=h3
 simp only [ca,na] at h4
 refine gb rfl (gm rfl ?_)
 obtain ⟨y2,e2,hF⟩:=Qa hF
 have h5:=h4.front (.cons .z .nil)
 refine op (OpS.callO h5 Tryz.func31 rfl rfl rfl rfl (vs:=[v0,.int .i64 2]) rfl (Qah e2) rfl .nil ?_)
 rintro _ w3 _ _ _ ⟨rfl,rfl,rfl,rfl⟩ h6
 have h7:=h6
 simp only [ca,na] at h7
 have h8:=St.nil 211 Point_.rep h7
 refine op (OpS.buildC (f:=true) (r:=RqD1) (x:=Conversion_.z) (r':=RqD1) (x':=(⟨(IntKind.i64.wrap (1+y1.1)),y2.1,0,0,0,0,[]⟩:Conversion_)) h8 pl69 ti69 (Zr.iso (y:=Conversion_.z) _ (Zr.of (Zr.prod (Zr.int .i64 0) (Zr.prod (Zr.bool false) (Zr.prod (Zr.int .i64 0) (Zr.prod (Zr.int .i64 0) (Zr.prod (Zr.int .i64 0) (Zr.prod (Zr.int .i64 0) (Zr.prod (Zr.raw rfl ([]:List Point_)) Zr.unit))))))) (by rfl))) rfl rfl rfl (.cons (Rep.int .i64) RqD1 RqD1 Conversion_.z (⟨(IntKind.i64.wrap (1+y1.1)),false,0,0,0,0,[]⟩:Conversion_) (Chg.iso _ (Chg.here (Chg.id (by rfl)))) rfl rfl V.int (.cons Rep.bool RqD1 RqD1 (⟨(IntKind.i64.wrap (1+y1.1)),false,0,0,0,0,[]⟩:Conversion_) (⟨(IntKind.i64.wrap (1+y1.1)),y2.1,0,0,0,0,[]⟩:Conversion_) (Chg.iso _ (Chg.there (Chg.here (Chg.id (by rfl))))) rfl rfl V.bool .nil)) (λ u2 h9=>?_))
 have h10:=St.nil 211 Point_.rep h9
 refine op (OpS.alloc (r:=RqD1) h10 ti69 (Zr.iso (y:=Conversion_.z) _ (Zr.of (Zr.prod (Zr.int .i64 0) (Zr.prod (Zr.bool false) (Zr.prod (Zr.int .i64 0) (Zr.prod (Zr.int .i64 0) (Zr.prod (Zr.int .i64 0) (Zr.prod (Zr.int .i64 0) (Zr.prod (Zr.raw rfl ([]:List Point_)) Zr.unit))))))) (by rfl))) rfl rfl (λ u3 w4 h11=>?_))
 refine op (OpS.storeC (f':=true) (fr:=RqD1) (r':=RqD1) (x':=(⟨(IntKind.i64.wrap (1+y1.1)),y2.1,0,0,0,0,[]⟩:Conversion_)) h11 .z PA.z (Chg.id (by rfl)) (Ty.like ty69 (by rfl) (by rfl)) rfl rfl rfl (V.at .z) (.inl rfl) (λ w5 h12=>?_))
 refine nil (Run.seq (sr (op (OpS.fbox (o3:=0) h12 .z PA.z Qry rfl rfl rfl rfl ?_))))
 refine op (OpS.loadBi h12 .z PA.a (GetS.ok (GetS.iso _ (GetS.here GetS.id))) ty3 rfl rfl rfl ?_)
 refine gb rfl (nil ?_)
 refine Run.ite rfl hF (λ e3 hF=>?_) (λ e3 hF=>?_)
 ·refine sr (gm rfl ?_)
  obtain ⟨y3,e4,hF⟩:=Qa hF
  have h13:=h12.front (.cons (.s (.s (.s .z))) .nil)
  refine op (OpS.callO h13 Tryz.func54 rfl rfl rfl rfl (vs:=[v0,.int .i64 1024]) rfl (Qj e4) rfl .nil ?_)
  rintro _ w6 _ _ _ ⟨rfl,rfl,rfl,rfl⟩ h14
  have h15:=h14
  simp only [ca,na] at h15
  refine gb rfl (op (OpS.fbox (o3:=2) h15 (.s .z) PA.z Qoc rfl rfl rfl rfl ?_))
  refine op (OpS.storeC (f':=true) (fr:=(Rep.int .i64)) (r':=RqD1) (x':=(⟨(IntKind.i64.wrap (1+y1.1)),y2.1,(IntKind.i64.wrap (y3.1-512)),0,0,0,[]⟩:Conversion_)) h15 (.s .z) PA.a (Chg.iso _ (Chg.there (Chg.there (Chg.here (Chg.id (by rfl)))))) ty3 rfl rfl rfl V.int (.inl rfl) (λ w7 h16=>?_))
  refine nil (sr (gm rfl ?_))
  obtain ⟨y4,e5,hF⟩:=Qa hF
  have h17:=h16.front (.cons (.s .z) .nil)
  refine op (OpS.callO h17 Tryz.func54 rfl rfl rfl rfl (vs:=[v0,.int .i64 1024]) rfl (Qj e5) rfl .nil ?_)
  rintro _ w8 _ _ _ ⟨rfl,rfl,rfl,rfl⟩ h18
  have h19:=h18
  simp only [ca,na] at h19
  refine gb rfl (op (OpS.fbox (o3:=3) h19 (.s .z) PA.z Qoi rfl rfl rfl rfl ?_))
  refine op (OpS.storeC (f':=true) (fr:=(Rep.int .i64)) (r':=RqD1) (x':=(⟨(IntKind.i64.wrap (1+y1.1)),y2.1,(IntKind.i64.wrap (y3.1-512)),(IntKind.i64.wrap (y4.1-512)),0,0,[]⟩:Conversion_)) h19 (.s .z) PA.a (Chg.iso _ (Chg.there (Chg.there (Chg.there (Chg.here (Chg.id (by rfl))))))) ty3 rfl rfl rfl V.int (.inl rfl) (λ w9 h20=>?_))
  refine nil (Run.seq (sr (gm rfl ?_)))
  obtain ⟨y5,e6,hF⟩:=Qa hF
  have h21:=h20.front (.cons (.s .z) .nil)
  refine op (OpS.callO h21 Tryz.func31 rfl rfl rfl rfl (vs:=[v0,.int .i64 2]) rfl (Qah e6) rfl .nil ?_)
  rintro _ w10 _ _ _ ⟨rfl,rfl,rfl,rfl⟩ h22
  have h23:=h22
  simp only [ca,na] at h23
  refine nil ?_
  refine Run.join (σ:=(Qg×Conversion_)) (λ s_ L_ w_=>L_=[(0,v0),(2,u1),(3,u3)]∧St e w_ [] [(false,.box 163 Qg.rep v0 s_.1),(true,.box 69 Conversion_.rep u1 Conversion_.z),(true,.box 69 RqD1 u3 s_.2),(true,.slice 211 Point_.rep (.slice none 0 0) ([]))]) hF (λ s1 _ w11 hI hF=>?_) (λ j1 hj1 hF=>?_)
  ·obtain ⟨rfl,h24⟩:=hI
   refine sr (gm rfl ?_)
   obtain ⟨y6,e7,hF⟩:=Qa hF
   have h25:=h24.front (.cons .z .nil)
   refine op (OpS.callO h25 Tryz.func54 rfl rfl rfl rfl (vs:=[v0,.int .i64 7]) rfl (Qj e7) rfl .nil ?_)
   rintro _ w12 _ _ _ ⟨rfl,rfl,rfl,rfl⟩ h26
   have h27:=h26
   simp only [ca,na] at h27
   refine gb rfl (op (OpS.fbox (o3:=4) h27 (.s (.s .z)) PA.z Qph rfl rfl rfl rfl ?_))
   obtain ⟨d1,e8,hF⟩:=Qh hF
   refine op (OpS.storeC (f':=true) (fr:=(Rep.int .i64)) (r':=RqD1) (x':=d1) h27 (.s (.s .z)) PA.a (Chg.of (x':={ s1.2 with K1:=(IntKind.i64.wrap (y6.1-3)) }) (Chg.iso _ (Chg.there (Chg.there (Chg.there (Chg.there (Chg.here (Chg.id (by rfl)))))))) e8) ty3 rfl rfl rfl V.int (.inl rfl) (λ w13 h28=>?_))
   refine nil (sr (gm rfl ?_))
   obtain ⟨y7,e9,hF⟩:=Qa hF
   have h29:=h28.front (.cons (.s .z) .nil)
   refine op (OpS.callO h29 Tryz.func54 rfl rfl rfl rfl (vs:=[v0,.int .i64 7]) rfl (Qj e9) rfl .nil ?_)
   rintro _ w14 _ _ _ ⟨rfl,rfl,rfl,rfl⟩ h30
   have h31:=h30
   simp only [ca,na] at h31
   refine gb rfl (op (OpS.fbox (o3:=5) h31 (.s .z) PA.z Qpd rfl rfl rfl rfl ?_))
   obtain ⟨d2,e10,hF⟩:=Qh hF
   refine op (OpS.storeC (f':=true) (fr:=(Rep.int .i64)) (r':=RqD1) (x':=d2) h31 (.s .z) PA.a (Chg.of (x':={ d1 with K2:=(IntKind.i64.wrap (y7.1-3)) }) (Chg.iso _ (Chg.there (Chg.there (Chg.there (Chg.there (Chg.there (Chg.here (Chg.id (by rfl))))))))) e10) ty3 rfl rfl rfl V.int (.inl rfl) (λ w15 h32=>?_))
   refine nil (sr (op (OpS.loadB (fr:=RqD1) h32 .z PA.z (GetS.ok GetS.id) (Ty.like ty69 (by rfl) (by rfl)) rfl rfl rfl (λ u4 h33=>?_))))
   refine op (OpS.storeC (f':=true) (fr:=RqD1) (r':=RqD1) (x':=d2) h33 (.s (.s .z)) PA.z (Chg.id (by rfl)) (Ty.like ty69 (by rfl) (by rfl)) rfl rfl rfl (V.at .z) (.inl rfl) (λ w16 h34=>?_))
   refine nil ?_
   obtain ⟨u5,hu1,h35⟩:=Qaq h34 .z (Ty.like ty69 (by rfl) (by rfl))
   have h36:=(h35.pick (.s (.s (.s .z)))).freeze
   have h37:=h36.pick .z
   have h38:=St.boxJ (r':=Conversion_.rep) (x':={ d2 with Points:=[] }) h37 (λ _ _ hs_=>(Jn.iso _ (Jn.prod Jn.refl (Jn.prod Jn.refl (Jn.prod Jn.refl (Jn.prod Jn.refl (Jn.prod Jn.refl (Jn.prod Jn.refl (Jn.prod (Jn.raw ((V.at .z) _ _ hs_) rfl) Jn.refl)))))))))
   have h39:=h38.pick (.s .z)
   have h40:=St.boxJ (r':=Conversion_.rep) (x':={ d2 with Points:=[] }) h39 (λ _ _ hs_=>(Jn.iso _ (Jn.prod Jn.refl (Jn.prod Jn.refl (Jn.prod Jn.refl (Jn.prod Jn.refl (Jn.prod Jn.refl (Jn.prod Jn.refl (Jn.prod (Jn.raw ((V.at .z) _ _ hs_) rfl) Jn.refl)))))))))
   have h41:=St.addV (f:=true) (r:=Conversion_.rep) (x:={ d2 with Points:=[] }) h40 (V.jn (r:=RqD1) (x:=d2) (V.at (.s .z)) rfl (λ _ _ hs_=>(Jn.iso _ (Jn.prod Jn.refl (Jn.prod Jn.refl (Jn.prod Jn.refl (Jn.prod Jn.refl (Jn.prod Jn.refl (Jn.prod Jn.refl (Jn.prod (Jn.raw ((V.at .z) _ _ hs_) rfl) Jn.refl))))))))))
   refine Run.retP rfl (.cell rfl hu1 .nil) ?_
   cases hF
   exact Post.mk' ⟨u5,rfl,rfl,rfl,rfl⟩ (h41.picks (.cons (.s (.s .z)) .nil)) (.val (V.at .z) .nil)
  refine Run.ite rfl hF (λ e11 hF=>?_) (λ e11 hF=>?_)
  ·refine sr (gm rfl ?_)
   obtain ⟨y8,e12,hF⟩:=Qa hF
   have h42:=h23.front (.cons .z .nil)
   refine op (OpS.callO h42 Tryz.func54 rfl rfl rfl rfl (vs:=[v0,.int .i64 21]) rfl (Qj e12) rfl .nil ?_)
   rintro _ w17 _ _ _ ⟨rfl,rfl,rfl,rfl⟩ h43
   have h44:=h43
   simp only [ca,na] at h44
   refine gb rfl (op (OpS.fbox (o3:=2) h44 (.s .z) PA.z Qoc rfl rfl rfl rfl ?_))
   refine op (OpS.storeC (f':=true) (fr:=(Rep.int .i64)) (r':=RqD1) (x':=(⟨(IntKind.i64.wrap (1+y1.1)),y2.1,(IntKind.i64.wrap (y8.1-10)),(IntKind.i64.wrap (y4.1-512)),0,0,[]⟩:Conversion_)) h44 (.s .z) PA.a (Chg.iso _ (Chg.there (Chg.there (Chg.here (Chg.id (by rfl)))))) ty3 rfl rfl rfl V.int (.inl rfl) (λ w18 h45=>?_))
   refine nil (Run.reg (gm rfl ?_))
   obtain ⟨y9,e13,hF⟩:=Qa hF
   have h46:=h45.front (.cons (.s .z) .nil)
   refine op (OpS.callO h46 Tryz.func54 rfl rfl rfl rfl (vs:=[v0,.int .i64 41]) rfl (Qj e13) rfl .nil ?_)
   rintro _ w19 _ _ _ ⟨rfl,rfl,rfl,rfl⟩ h47
   have h48:=h47
   simp only [ca,na] at h48
   refine gb rfl (op (OpS.fbox (o3:=3) h48 (.s .z) PA.z Qoi rfl rfl rfl rfl ?_))
   refine op (OpS.storeC (f':=true) (fr:=(Rep.int .i64)) (r':=RqD1) (x':=(⟨(IntKind.i64.wrap (1+y1.1)),y2.1,(IntKind.i64.wrap (y8.1-10)),(IntKind.i64.wrap (y9.1-20)),0,0,[]⟩:Conversion_)) h48 (.s .z) PA.a (Chg.iso _ (Chg.there (Chg.there (Chg.there (Chg.here (Chg.id (by rfl))))))) ty3 rfl rfl rfl V.int (.inl rfl) (λ w20 h49=>?_))
   refine nil (Run.slim [(0,v0),(2,u1),(3,u3)] ⟨rfl,rfl,rfl,trivial⟩ ?_)
   exact hj1 (y9.2,(⟨(IntKind.i64.wrap (1+y1.1)),y2.1,(IntKind.i64.wrap (y8.1-10)),(IntKind.i64.wrap (y9.1-20)),0,0,[]⟩:Conversion_)) _ _ ⟨rfl,(h49.facts .nil).picks (.cons (.s .z) (.cons (.s (.s (.s .z))) (.cons .z (.cons (.s .z) .nil))))⟩ hF
  refine Run.skip (Run.slim [(0,v0),(2,u1),(3,u3)] ⟨rfl,rfl,rfl,trivial⟩ ?_)
  exact hj1 (y5.2,(⟨(IntKind.i64.wrap (1+y1.1)),y2.1,(IntKind.i64.wrap (y3.1-512)),(IntKind.i64.wrap (y4.1-512)),0,0,[]⟩:Conversion_)) _ _ ⟨rfl,(h23.facts .nil).picks (.cons .z (.cons (.s (.s (.s .z))) (.cons .z (.cons (.s .z) .nil))))⟩ hF
 refine Run.skip (sr (gm rfl ?_))
 obtain ⟨y10,e14,hF⟩:=Qa hF
 have h50:=h12.front (.cons (.s (.s (.s .z))) .nil)
 refine op (OpS.callO h50 Tryz.func54 rfl rfl rfl rfl (vs:=[v0,.int .i64 11]) rfl (Qj e14) rfl .nil ?_)
 rintro _ w21 _ _ _ ⟨rfl,rfl,rfl,rfl⟩ h51
 have h52:=h51
 simp only [ca,na] at h52
 refine gb rfl (ga rfl ?_)
 obtain ⟨x1,e15,hF⟩:=Qh hF
 refine RunL.name e15 ?_
 refine nil (sr (op (OpS.fbox (o3:=1) h52 (.s .z) PA.z Qns rfl rfl rfl rfl ?_)))
 refine op (OpS.loadBb h52 (.s .z) PA.a (GetS.ok (GetS.iso _ (GetS.there (GetS.here GetS.id)))) ty4 rfl rfl rfl ?_)
 obtain ⟨y11,e16,hF⟩:=Qa hF
 refine op (OpS.callP h52 Tryz.func222 rfl rfl rfl rfl (vs:=[.bool y2.1]) rfl (Qkd e16) .nil ?_)
 rintro _ w22 _ _ _ ⟨rfl,rfl,rfl,rfl⟩ h53
 have h54:=h53 rfl rfl
 simp only [ca,na] at h54
 refine gm rfl ?_
 obtain ⟨y12,e17,hF⟩:=Qa hF
 have h55:=h54.front (.cons .z .nil)
 refine op (OpS.callO h55 Tryz.func54 rfl rfl rfl rfl (vs:=[v0,.int .i64 40]) rfl (Qj e17) rfl .nil ?_)
 rintro _ w23 _ _ _ ⟨rfl,rfl,rfl,rfl⟩ h56
 have h57:=h56
 simp only [ca,na] at h57
 refine gb rfl (ga rfl ?_)
 obtain ⟨x2,e18,hF⟩:=Qh hF
 refine RunL.name e18 ?_
 refine nil (Run.seq (sr (ga rfl (nil (Run.block (Run.slim [(0,v0),(2,u1),(3,u3),(4,.int .i64 x1),(5,.int .i64 x2),(6,.int .i64 0)] ⟨rfl,rfl,rfl,rfl,rfl,rfl,trivial⟩ ?_))))))
 refine Run.loopP (σ:=(Int×Int×Qg×(List Point_))) (λ s_ L_ w_=>∃ u0_:Value,L_=[(0,v0),(2,u1),(3,u3),(4,.int .i64 x1),(5,.int .i64 s_.1),(6,.int .i64 s_.2.1)]∧St e w_ [] [(false,.box 163 Qg.rep v0 s_.2.2.1),(true,.box 69 Conversion_.rep u1 Conversion_.z),(true,.box 69 (Rep.iso (λ s:Conversion_=>(s.Form,s.Signed,s.M,s.B,s.K1,s.K2,s.Points,())) (Rep.prod (Rep.int .i64) (Rep.prod Rep.bool (Rep.prod (Rep.int .i64) (Rep.prod (Rep.int .i64) (Rep.prod (Rep.int .i64) (Rep.prod (Rep.int .i64) (Rep.prod (Rep.raw (α:=List Point_) u0_) Rep.unit)))))))) u3 (⟨(IntKind.i64.wrap (1+y1.1)),y2.1,0,0,0,0,[]⟩:Conversion_)),(true,.slice 211 Point_.rep u0_ s_.2.2.2)]) hF ⟨(.slice none 0 0),rfl,(h57.facts .nil).picks (.cons .z (.cons (.s (.s (.s .z))) (.cons .z (.cons (.s .z) .nil))))⟩ (λ k1 hk1 s2 _ w24 hI hF=>?_)
 obtain ⟨u6,rfl,h58⟩:=hI
 refine Run.seq (sr (gm rfl (gm rfl (gb rfl (nil ?_)))))
 refine Run.ite rfl hF (λ e19 hF=>?_) (λ e19 hF=>?_)
 ·refine Run.skip (Run.seq (Run.block (Run.seq ?_)))
  have h59:=h58.picks (.cons .z (.cons (.s .z) (.cons .z (.cons .z .nil))))
  obtain ⟨y13,e20,hF⟩:=Qa hF
  obtain ⟨y14,e21,hF⟩:=Qa hF
  refine Run.drawV (Ωs:=[(true,.box 69 Conversion_.rep u1 Conversion_.z),(true,.slice 211 Point_.rep u6 s2.2.2.2)]) [.kr 57 (padd u3 6) [1],.kr 58 u6 [1],.k 59 (.int .i64 s2.1),.k 60 (.int .u8 y13),.k 61 v0,⟨some 62,some (.int .i64 y14.1),λ _=>[],λ ds_ u_=>[(false,.box 163 Qg.rep v0 y14.2)],[0],[],none⟩,.f 63 (λ u_=>[(true,.val Point_.rep u_ (⟨y13,y14.1⟩:Point_))]),.f 64 (λ u_=>[(true,.val (Rep.slice Point_.rep) u_ ([(⟨y13,y14.1⟩:Point_)]))])] [[],[0],[],[2],[],[4],[3,5],[6]] [[(false,.box 163 Qg.rep v0 s2.2.2.1)],[(true,.box 69 (Rep.iso (λ s:Conversion_=>(s.Form,s.Signed,s.M,s.B,s.K1,s.K2,s.Points,())) (Rep.prod (Rep.int .i64) (Rep.prod Rep.bool (Rep.prod (Rep.int .i64) (Rep.prod (Rep.int .i64) (Rep.prod (Rep.int .i64) (Rep.prod (Rep.int .i64) (Rep.prod (Rep.raw (α:=List Point_) u6) Rep.unit)))))))) u3 (⟨(IntKind.i64.wrap (1+y1.1)),y2.1,0,0,0,0,[]⟩:Conversion_))]] [1,2,3,4,5,6,7,8,9] Qi rfl rfl rfl h59 (.cons ?_ (.cons ?_ (.cons ?_ (.cons ?_ (.cons ?_ (.cons ?_ (.cons ?_ (.cons ?_ .nil)))))))) (λ q1 w hq1 h=>?_)
  ·intro q1 w Γx Ωx h
   refine OpS.fbox (o3:=6) h .z PA.z Qnu rfl rfl rfl rfl ?_
   exact du h
  ·intro q1 w Γx Ωx h
   refine OpS.loadR h .z PA.a (GetS.ok (GetS.iso _ (GetS.there (GetS.there (GetS.there (GetS.there (GetS.there (GetS.there (GetS.here GetS.id))))))))) ty67 rfl rfl rfl rfl rfl ?_
   exact du h
  ·intro q1 w Γx Ωx h
   refine OpS.mv rfl rfl rfl ?_
   exact du h
  ·intro q1 w Γx Ωx h
   refine OpS.callP h Tryz.func223 rfl rfl rfl rfl (vs:=[.int .i64 s2.1]) rfl (Qlu e20) .nil ?_
   rintro _ w28 _ _ _ ⟨rfl,rfl,rfl,rfl⟩ h67
   have h68:=h67 rfl rfl
   simp only [ca,na] at h68
   exact ⟨undef,rfl,trivial,h68⟩
  ·intro q1 w Γx Ωx h
   refine OpS.mv rfl rfl rfl ?_
   exact du h
  ·intro q1 w Γx Ωx h
   have h69:=h.front (.cons .z .nil)
   refine OpS.callO h69 Tryz.func224 rfl rfl rfl rfl (vs:=[v0]) rfl (Qls e21) rfl .nil ?_
   rintro _ w29 _ _ _ ⟨rfl,rfl,rfl,rfl⟩ h70
   have h71:=h70
   simp only [ca,na] at h71
   exact ⟨undef,rfl,trivial,h71⟩
  ·intro q1 w Γx Ωx h
   refine OpS.build (f:=true) (x':=(⟨y13,y14.1⟩:Point_)) h pl211 ti211 Point_.zr rfl rfl rfl (.cons rfl Point_.f0 rfl V.int (.cons rfl Point_.f1 rfl V.int .nil)) (λ u h72=>?_)
   exact ⟨u,rfl,trivial,h72⟩
  ·intro q1 w Γx Ωx h
   refine OpS.lit (r:=Point_.rep) (f:=true) h Tryz.underlying67 ti211 rfl rfl rfl rfl rfl (.cons rfl (V.at .z) .nil) rfl rfl (λ u w30 h73=>?_)
   exact ⟨u,rfl,trivial,h73⟩
  have h74:=h
  obtain ⟨x3,e22,hF⟩:=Qa hF
  refine op (OpS.app (f':=true) h74 (.s (.s (.s .z))) Tryz.underlying67 ti211 rfl rfl rfl rfl rfl rfl rfl (V.at (.s .z)) (.inr Point_.pure) e22 (λ u7 w31 h75=>?_))
  refine op (OpS.fbox (o3:=6) h75 (.s .z) PA.z Qnu rfl rfl rfl rfl ?_)
  refine op (OpS.storeC (f':=true) (fr:=(Rep.raw u7)) (r':=(Rep.iso (λ s:Conversion_=>(s.Form,s.Signed,s.M,s.B,s.K1,s.K2,s.Points,())) (Rep.prod (Rep.int .i64) (Rep.prod Rep.bool (Rep.prod (Rep.int .i64) (Rep.prod (Rep.int .i64) (Rep.prod (Rep.int .i64) (Rep.prod (Rep.int .i64) (Rep.prod (Rep.raw (α:=List Point_) u7) Rep.unit))))))))) (x':=(⟨(IntKind.i64.wrap (1+y1.1)),y2.1,0,0,0,0,[]⟩:Conversion_)) h75 (.s .z) PA.a (Chg.iso _ (Chg.there (Chg.there (Chg.there (Chg.there (Chg.there (Chg.there (Chg.here (Chg.id (by rfl)))))))))) (Ty.like ty67 (by rfl) (by rfl)) rfl rfl rfl (V.raw (f:=true) (St.own1 h75 .z) ([])) (.inl rfl) (λ w32 h76=>?_))
  refine nil (Run.reg (gm rfl (gm rfl ?_)))
  obtain ⟨y15,e23,hF⟩:=Qa hF
  have h77:=h76.front (.cons (.s (.s .z)) .nil)
  refine op (OpS.callO h77 Tryz.func54 rfl rfl rfl rfl (vs:=[v0,.int .i64 18]) rfl (Qj e23) rfl .nil ?_)
  rintro _ w33 _ _ _ ⟨rfl,rfl,rfl,rfl⟩ h78
  have h79:=h78
  simp only [ca,na] at h79
  refine gb rfl (gb rfl (ga rfl ?_))
  obtain ⟨x4,e24,hF⟩:=Qh hF
  refine RunL.name e24 ?_
  refine nil (Run.endBlock (Run.reg (gm rfl (gb rfl (ga rfl ?_)))))
  obtain ⟨x5,e25,hF⟩:=Qh hF
  refine RunL.name e25 ?_
  refine nil (Run.slim [(0,v0),(2,u1),(3,u3),(4,.int .i64 x1),(5,.int .i64 x4),(6,.int .i64 x5)] ⟨rfl,rfl,rfl,rfl,rfl,rfl,trivial⟩ ?_)
  exact hk1 (x4,x5,y15.2,x3) _ _ ⟨u7,rfl,(h79.facts .nil).picks (.cons .z (.cons (.s (.s .z)) (.cons .z (.cons .z .nil))))⟩ hF
 refine Run.exit rfl ?_
 refine sr (op (OpS.loadB (fr:=(Rep.iso (λ s:Conversion_=>(s.Form,s.Signed,s.M,s.B,s.K1,s.K2,s.Points,())) (Rep.prod (Rep.int .i64) (Rep.prod Rep.bool (Rep.prod (Rep.int .i64) (Rep.prod (Rep.int .i64) (Rep.prod (Rep.int .i64) (Rep.prod (Rep.int .i64) (Rep.prod (Rep.raw (α:=List Point_) u6) Rep.unit))))))))) h58 (.s (.s .z)) PA.z (GetS.ok GetS.id) (Ty.like ty69 (by rfl) (by rfl)) rfl rfl rfl (λ u8 h80=>?_)))
 refine op (OpS.storeC (f':=true) (fr:=(Rep.iso (λ s:Conversion_=>(s.Form,s.Signed,s.M,s.B,s.K1,s.K2,s.Points,())) (Rep.prod (Rep.int .i64) (Rep.prod Rep.bool (Rep.prod (Rep.int .i64) (Rep.prod (Rep.int .i64) (Rep.prod (Rep.int .i64) (Rep.prod (Rep.int .i64) (Rep.prod (Rep.raw (α:=List Point_) u6) Rep.unit))))))))) (r':=(Rep.iso (λ s:Conversion_=>(s.Form,s.Signed,s.M,s.B,s.K1,s.K2,s.Points,())) (Rep.prod (Rep.int .i64) (Rep.prod Rep.bool (Rep.prod (Rep.int .i64) (Rep.prod (Rep.int .i64) (Rep.prod (Rep.int .i64) (Rep.prod (Rep.int .i64) (Rep.prod (Rep.raw (α:=List Point_) u6) Rep.unit))))))))) (x':=(⟨(IntKind.i64.wrap (1+y1.1)),y2.1,0,0,0,0,[]⟩:Conversion_)) h80 (.s .z) PA.z (Chg.id (by rfl)) (Ty.like ty69 (by rfl) (by rfl)) rfl rfl rfl (V.at .z) (.inl rfl) (λ w34 h81=>?_))
 refine nil ?_
 obtain ⟨u9,hu2,h82⟩:=Qaq h81 .z (Ty.like ty69 (by rfl) (by rfl))
 have h83:=(h82.pick (.s (.s (.s .z)))).freeze
 have h84:=h83.pick .z
 have h85:=St.boxJ (r':=Conversion_.rep) (x':=(⟨(IntKind.i64.wrap (1+y1.1)),y2.1,0,0,0,0,s2.2.2.2⟩:Conversion_)) h84 (λ _ _ hs_=>(Jn.iso _ (Jn.prod Jn.refl (Jn.prod Jn.refl (Jn.prod Jn.refl (Jn.prod Jn.refl (Jn.prod Jn.refl (Jn.prod Jn.refl (Jn.prod (Jn.raw ((V.at .z) _ _ hs_) rfl) Jn.refl)))))))))
 have h86:=h85.pick (.s (.s .z))
 have h87:=St.boxJ (r':=Conversion_.rep) (x':=(⟨(IntKind.i64.wrap (1+y1.1)),y2.1,0,0,0,0,s2.2.2.2⟩:Conversion_)) h86 (λ _ _ hs_=>(Jn.iso _ (Jn.prod Jn.refl (Jn.prod Jn.refl (Jn.prod Jn.refl (Jn.prod Jn.refl (Jn.prod Jn.refl (Jn.prod Jn.refl (Jn.prod (Jn.raw ((V.at .z) _ _ hs_) rfl) Jn.refl)))))))))
 have h88:=St.addV (f:=true) (r:=Conversion_.rep) (x:=(⟨(IntKind.i64.wrap (1+y1.1)),y2.1,0,0,0,0,s2.2.2.2⟩:Conversion_)) h87 (V.jn (r:=(Rep.iso (λ s:Conversion_=>(s.Form,s.Signed,s.M,s.B,s.K1,s.K2,s.Points,())) (Rep.prod (Rep.int .i64) (Rep.prod Rep.bool (Rep.prod (Rep.int .i64) (Rep.prod (Rep.int .i64) (Rep.prod (Rep.int .i64) (Rep.prod (Rep.int .i64) (Rep.prod (Rep.raw (α:=List Point_) u6) Rep.unit))))))))) (x:=(⟨(IntKind.i64.wrap (1+y1.1)),y2.1,0,0,0,0,[]⟩:Conversion_)) (V.at (.s .z)) rfl (λ _ _ hs_=>(Jn.iso _ (Jn.prod Jn.refl (Jn.prod Jn.refl (Jn.prod Jn.refl (Jn.prod Jn.refl (Jn.prod Jn.refl (Jn.prod Jn.refl (Jn.prod (Jn.raw ((V.at .z) _ _ hs_) rfl) Jn.refl))))))))))
 refine Run.retP rfl (.cell rfl hu2 .nil) ?_
 cases hF
 exact Post.mk' ⟨u9,rfl,rfl,rfl,rfl⟩ (h88.picks (.cons (.s (.s .z)) .nil)) (.val (V.at .z) .nil)
theorem Qrt {fuel:Nat} {a0:Int} {a1:Int} {y:Bool} (hF:Qig fuel a0 a1=some y) {w:World} :
  Spec Tryz.prog 225 [.int .u16 a0,.int .i64 a1].toArray w [] [] (λ v Γr Ωr Ωo=>v=.bool y∧Γr=[]∧Ωr=[]∧Ωo=[]):=by
 refine Spec.of (L:=[(0,.int .u16 a0),(1,.int .i64 a1)]) Tryz.func225 rfl ⟨rfl,rfl,trivial⟩ rfl (λ e h=>?_)
 unfold Qig at hF
 refine sr (ga rfl (nil (sr (gm rfl (gm rfl (op (OpS.conv Tryz.underlying3 Tryz.underlying271 rfl rfl rfl ?_)))))))
 obtain ⟨e1,hF⟩:=Qr hF
 refine op (OpS.shr rfl rfl rfl rfl e1 ?_)
 refine op (OpS.rem rfl rfl rfl rfl (by decide) ?_)
 refine gb rfl (ga rfl ?_)
 obtain ⟨x1,e2,hF⟩:=Qh hF
 refine RunL.nameb e2 ?_
 refine nil (Run.retP rfl (.tmp rfl .nil) ?_)
 cases hF
 exact Post.mk' ⟨rfl,rfl,rfl,rfl⟩ (h.picks .nil) .nil
set_option maxRecDepth 20000 in
theorem Qjq {fuel:Nat} {a0:Qg} {a1:Bool} {y:Thresholds_×Qg} (hF:Qcd fuel a0 a1=some y) {w:World} {v0:Value} :
  Spec Tryz.prog 172 [v0,.bool a1].toArray w [] [(false,.box 163 Qg.rep v0 a0)] (λ v Γr Ωr Ωo=>∃ u0:Value,v=u0∧Γr=[(true,.val Thresholds_.rep u0 y.1)]∧Ωr=[]∧Ωo=[(false,.box 163 Qg.rep v0 y.2)]):=by
 refine Spec.of (L:=[(0,v0),(1,.bool a1)]) Tryz.func172 rfl ⟨rfl,rfl,trivial⟩ rfl (λ e h=>?_)
 unfold Qcd at hF
 refine sr (op (OpS.alloc h ti72 Thresholds_.zr rfl rfl (λ u1 w1 h1=>?_)))
 refine nil (sr (gm rfl ?_))
 obtain ⟨y1,e1,hF⟩:=Qa hF
 have h2:=h1.front (.cons (.s .z) .nil)
 refine op (OpS.callO h2 Tryz.func54 rfl rfl rfl rfl (vs:=[v0,.int .i64 64]) rfl (Qj e1) rfl .nil ?_)
 rintro _ w2 _ _ _ ⟨rfl,rfl,rfl,rfl⟩ h3
 have h4:=h3
 simp only [ca,na] at h4
 refine op (OpS.conv Tryz.underlying3 Tryz.underlying5 rfl rfl rfl ?_)
 refine op (OpS.build (f:=true) (x':=(⟨(IntKind.u8.wrap y1.1),(List.replicate 6 0)⟩:Thresholds_)) h4 pl72 ti72 Thresholds_.zr rfl rfl rfl (.cons rfl Thresholds_.f0 rfl V.int .nil) (λ u2 h5=>?_))
 refine op (OpS.alloc h5 ti72 Thresholds_.zr rfl rfl (λ u3 w3 h6=>?_))
 refine op (OpS.storeB (f':=true) h6 .z PA.z Put.id ty72 rfl rfl rfl (V.at .z) (.inl rfl) (λ w4 h7=>?_))
 refine nil (sr (gm rfl ?_))
 obtain ⟨y2,e2,hF⟩:=Qa hF
 refine op (OpS.callP h7 Tryz.func222 rfl rfl rfl rfl (vs:=[.bool a1]) rfl (Qkd e2) .nil ?_)
 rintro _ w5 _ _ _ ⟨rfl,rfl,rfl,rfl⟩ h8
 have h9:=h8 rfl rfl
 simp only [ca,na] at h9
 refine gm rfl ?_
 obtain ⟨y3,e3,hF⟩:=Qa hF
 have h10:=h9.front (.cons (.s .z) .nil)
 refine op (OpS.callO h10 Tryz.func54 rfl rfl rfl rfl (vs:=[v0,.int .i64 40]) rfl (Qj e3) rfl .nil ?_)
 rintro _ w6 _ _ _ ⟨rfl,rfl,rfl,rfl⟩ h11
 have h12:=h11
 simp only [ca,na] at h12
 refine gb rfl (ga rfl ?_)
 obtain ⟨x1,e4,hF⟩:=Qh hF
 refine RunL.name e4 ?_
 refine nil (sr (op (OpS.buildA (f:=true) (r:=(Rep.int .i64)) h12 Tryz.underlying346 ti3 rfl ti346 rfl rfl rfl (.cons rfl V.int (.cons rfl V.int (.cons rfl V.int (.cons rfl V.int (.cons rfl V.int (.cons rfl V.int .nil)))))) rfl (λ u4 h13=>?_))))
 refine op (OpS.alloc h13 ti346 (Zr.of (Zr.arr (Zr.int .i64 0) 6) rfl) rfl rfl (λ u5 w7 h14=>?_))
 obtain ⟨d1,e5,hF⟩:=Qh hF
 refine op (OpS.storeB (f':=true) h14 .z PA.z (Put.of Put.id e5) ty346 rfl rfl rfl (V.at .z) (.inl rfl) (λ w8 h15=>?_))
 refine nil (Run.seq (sr (ga rfl (nil (Run.block (Run.slim [(0,v0),(4,u1),(5,u3),(6,.int .i64 x1),(7,u5),(8,.int .i64 0)] ⟨rfl,rfl,rfl,rfl,rfl,rfl,trivial⟩ ?_))))))
 refine Run.loopP (σ:=(Int×Int×Qg×Thresholds_)) (λ s_ L_ w_=>L_=[(0,v0),(4,u1),(5,u3),(6,.int .i64 s_.1),(7,u5),(8,.int .i64 s_.2.1)]∧St e w_ [] [(false,.box 163 Qg.rep v0 s_.2.2.1),(true,.box 72 Thresholds_.rep u1 Thresholds_.z),(true,.box 72 Thresholds_.rep u3 s_.2.2.2),(true,.box 346 (Rep.arr 6 (Rep.int .i64)) u5 d1)]) hF ⟨rfl,(h15.facts .nil).picks (.cons (.s .z) (.cons (.s (.s .z)) (.cons (.s .z) (.cons .z .nil))))⟩ (λ k1 hk1 s1 _ w9 hI hF=>?_)
 obtain ⟨rfl,h16⟩:=hI
 refine Run.seq (sr (gm rfl (gb rfl (nil ?_))))
 refine Run.ite rfl hF (λ e6 hF=>?_) (λ e6 hF=>?_)
 ·refine Run.skip (Run.seq (Run.block (Run.seq (sr (gm rfl (gb rfl (nil ?_)))))))
  refine Run.join (σ:=Int) (λ s_ L_ w_=>L_=[(0,v0),(4,u1),(5,u3),(6,.int .i64 s_),(7,u5),(8,.int .i64 s1.2.1)]∧St e w_ [] [(false,.box 163 Qg.rep v0 s1.2.2.1),(true,.box 72 Thresholds_.rep u1 Thresholds_.z),(true,.box 72 Thresholds_.rep u3 s1.2.2.2),(true,.box 346 (Rep.arr 6 (Rep.int .i64)) u5 d1)]) hF (λ s2 _ w10 hI hF=>?_) (λ j1 hj1 hF=>?_)
  ·obtain ⟨rfl,h17⟩:=hI
   refine Run.seq ?_
   have h18:=h17.picks (.cons (.s (.s .z)) (.cons (.s (.s .z)) (.cons .z (.cons .z .nil))))
   obtain ⟨x2,e7,hF⟩:=Qa hF
   obtain ⟨e8,hF⟩:=Qr hF
   refine Run.drawV (Ωs:=[(false,.box 163 Qg.rep v0 s1.2.2.1),(true,.box 72 Thresholds_.rep u1 Thresholds_.z)]) [.kr 27 (padd u3 0) [0],.kr 28 (.int .u8 s1.2.2.2.Mask) [0],.k 29 (.int .u16 (IntKind.u16.wrap s1.2.2.2.Mask)),.k 30 (.int .i64 s1.2.1),.kr 31 (padd u5 (0+(s1.2.1:Int).toNat*(Rep.int .i64).n)) [1],.kr 32 (.int .i64 x2) [1]] [[],[0],[1],[],[3],[4]] [[(true,.box 72 Thresholds_.rep u3 s1.2.2.2)],[(true,.box 346 (Rep.arr 6 (Rep.int .i64)) u5 d1)]] [0,1,2,3,4,5,6,7] Qi rfl rfl rfl h18 (.cons ?_ (.cons ?_ (.cons ?_ (.cons ?_ (.cons ?_ (.cons ?_ .nil)))))) (λ q1 w hq1 h=>?_)
   ·intro q1 w Γx Ωx h
    refine OpS.fbox (o3:=0) h .z PA.z Qnt rfl rfl rfl rfl ?_
    exact du h
   ·intro q1 w Γx Ωx h
    refine OpS.loadBi h .z PA.a (Get.fld Thresholds_.f0) ty5 rfl rfl rfl ?_
    exact du h
   ·intro q1 w Γx Ωx h
    refine OpS.conv Tryz.underlying5 Tryz.underlying49 rfl rfl rfl ?_
    exact du h
   ·intro q1 w Γx Ωx h
    refine OpS.mv rfl rfl rfl ?_
    exact du h
   ·intro q1 w Γx Ωx h
    refine OpS.ibox h .z PA.z Tryz.underlying346 ty3 (Nat.eq_of_beq_eq_true e8) rfl rfl rfl rfl e7 ?_
    exact du h
   ·intro q1 w Γx Ωx h
    refine OpS.loadBi h .z PA.a (Get.comp Get.id (Get.arr e7)) ty3 rfl rfl rfl ?_
    exact du h
   have h19:=h
   obtain ⟨y4,e9,hF⟩:=Qa hF
   refine op (OpS.callP h19 Tryz.func225 rfl rfl rfl rfl (vs:=[.int .u16 (IntKind.u16.wrap s1.2.2.2.Mask),.int .i64 x2]) rfl (Qrt e9) .nil ?_)
   rintro _ w11 _ _ _ ⟨rfl,rfl,rfl,rfl⟩ h20
   have h21:=h20 rfl rfl
   simp only [ca,na] at h21
   refine nil ?_
   refine Run.ite rfl hF (λ e10 hF=>?_) (λ e10 hF=>?_)
   ·refine Run.seq ?_
    obtain ⟨x3,e11,hF⟩:=Qa hF
    obtain ⟨e12,hF⟩:=Qr hF
    obtain ⟨y5,e13,hF⟩:=Qa hF
    refine Run.drawV (Ωs:=[(false,.box 163 Qg.rep v0 s1.2.2.1),(true,.box 72 Thresholds_.rep u1 Thresholds_.z)]) [.k 34 (.int .i64 s1.2.1),.kr 35 (padd u5 (0+(s1.2.1:Int).toNat*(Rep.int .i64).n)) [1],.kr 36 (.int .i64 x3) [1],.k 37 (.int .i64 s2),.k 38 (.int .u8 y5),.kr 39 (padd u3 1) [0]] [[],[0],[1],[],[3],[]] [[(true,.box 72 Thresholds_.rep u3 s1.2.2.2)],[(true,.box 346 (Rep.arr 6 (Rep.int .i64)) u5 d1)]] [0,1,2,3,4,5,6,7] Qi rfl rfl rfl h21 (.cons ?_ (.cons ?_ (.cons ?_ (.cons ?_ (.cons ?_ (.cons ?_ .nil)))))) (λ q2 w hq2 h=>?_)
    ·intro q2 w Γx Ωx h
     refine OpS.mv rfl rfl rfl ?_
     exact du h
    ·intro q2 w Γx Ωx h
     refine OpS.ibox h .z PA.z Tryz.underlying346 ty3 (Nat.eq_of_beq_eq_true e12) rfl rfl rfl rfl e11 ?_
     exact du h
    ·intro q2 w Γx Ωx h
     refine OpS.loadBi h .z PA.a (Get.comp Get.id (Get.arr e11)) ty3 rfl rfl rfl ?_
     exact du h
    ·intro q2 w Γx Ωx h
     refine OpS.mv rfl rfl rfl ?_
     exact du h
    ·intro q2 w Γx Ωx h
     refine OpS.callP h Tryz.func223 rfl rfl rfl rfl (vs:=[.int .i64 s2]) rfl (Qlu e13) .nil ?_
     rintro _ w13 _ _ _ ⟨rfl,rfl,rfl,rfl⟩ h24
     have h25:=h24 rfl rfl
     simp only [ca,na] at h25
     exact ⟨undef,rfl,trivial,h25⟩
    ·intro q2 w Γx Ωx h
     refine OpS.fbox (o3:=1) h .z PA.z Qnz rfl rfl rfl rfl ?_
     exact du h
    have h26:=h
    obtain ⟨x4,e14,hF⟩:=Qa hF
    obtain ⟨e15,hF⟩:=Qr hF
    refine op (OpS.ibox h26 .z PA.a Tryz.underlying70 ty5 (Nat.eq_of_beq_eq_true e15) rfl rfl rfl rfl e14 ?_)
    obtain ⟨d2,e16,hF⟩:=Qh hF
    refine op (OpS.storeB (f':=true) h26 .z PA.a (Put.of (Put.comp (Get.fld Thresholds_.f1) (Put.arr e14) (Put.fld Thresholds_.f1)) e16) ty5 rfl rfl rfl V.int (.inl rfl) (λ w14 h27=>?_))
    refine nil (Run.reg (gm rfl (gm rfl ?_)))
    obtain ⟨y6,e17,hF⟩:=Qa hF
    have h28:=h27.front (.cons (.s (.s .z)) .nil)
    refine op (OpS.callO h28 Tryz.func54 rfl rfl rfl rfl (vs:=[v0,.int .i64 36]) rfl (Qj e17) rfl .nil ?_)
    rintro _ w15 _ _ _ ⟨rfl,rfl,rfl,rfl⟩ h29
    have h30:=h29
    simp only [ca,na] at h30
    refine gb rfl (ga rfl ?_)
    obtain ⟨x5,e18,hF⟩:=Qh hF
    refine RunL.name e18 ?_
    refine nil (Run.endBlock (Run.reg (gm rfl (gb rfl (ga rfl ?_)))))
    obtain ⟨x6,e19,hF⟩:=Qh hF
    refine RunL.name e19 ?_
    refine nil (Run.slim [(0,v0),(4,u1),(5,u3),(6,.int .i64 x5),(7,u5),(8,.int .i64 x6)] ⟨rfl,rfl,rfl,rfl,rfl,rfl,trivial⟩ ?_)
    exact hk1 (x5,x6,y6.2,d2) _ _ ⟨rfl,(h30.facts .nil).picks (.cons .z (.cons (.s (.s .z)) (.cons .z (.cons .z .nil))))⟩ hF
   refine Run.skip (Run.endBlock (Run.reg (gm rfl (gb rfl (ga rfl ?_)))))
   obtain ⟨x7,e20,hF⟩:=Qh hF
   refine RunL.name e20 ?_
   refine nil (Run.slim [(0,v0),(4,u1),(5,u3),(6,.int .i64 s2),(7,u5),(8,.int .i64 x7)] ⟨rfl,rfl,rfl,rfl,rfl,rfl,trivial⟩ ?_)
   exact hk1 (s2,x7,s1.2.2.1,s1.2.2.2) _ _ ⟨rfl,(h21.facts .nil).picks (.cons (.s (.s .z)) (.cons (.s (.s .z)) (.cons .z (.cons .z .nil))))⟩ hF
  refine Run.ite rfl hF (λ e21 hF=>?_) (λ e21 hF=>?_)
  ·refine Run.reg (gm rfl (gb rfl (ga rfl ?_)))
   obtain ⟨x8,e22,hF⟩:=Qh hF
   refine RunL.name e22 ?_
   refine nil (Run.slim [(0,v0),(4,u1),(5,u3),(6,.int .i64 x8),(7,u5),(8,.int .i64 s1.2.1)] ⟨rfl,rfl,rfl,rfl,rfl,rfl,trivial⟩ ?_)
   exact hj1 (x8) _ _ ⟨rfl,(h16.facts .nil).picks (.cons .z (.cons .z (.cons .z (.cons .z .nil))))⟩ hF
  refine Run.skip (Run.slim [(0,v0),(4,u1),(5,u3),(6,.int .i64 s1.1),(7,u5),(8,.int .i64 s1.2.1)] ⟨rfl,rfl,rfl,rfl,rfl,rfl,trivial⟩ ?_)
  exact hj1 (s1.1) _ _ ⟨rfl,(h16.facts .nil).picks (.cons .z (.cons .z (.cons .z (.cons .z .nil))))⟩ hF
 refine Run.exit rfl ?_
 refine sr (op (OpS.loadB h16 (.s (.s .z)) PA.z Get.id ty72 rfl rfl rfl (λ u6 h31=>?_)))
 refine op (OpS.storeB (f':=true) h31 (.s .z) PA.z Put.id ty72 rfl rfl rfl (V.at .z) (.inl rfl) (λ w16 h32=>?_))
 refine nil ?_
 obtain ⟨u7,hu1,h33⟩:=Qaq h32 .z ty72
 refine Run.retP rfl (.cell rfl hu1 .nil) ?_
 cases hF
 exact Post.mk' ⟨u7,rfl,rfl,rfl,rfl⟩ (h33.picks (.cons (.s .z) .nil)) (.val (V.at .z) .nil)
set_option maxHeartbeats 8000000 in set_option maxRecDepth 20000 in
theorem Qll {fuel:Nat} {a0:Qg} {a1:Int} {y:Sensor_×Qg} (hF:Qdv fuel a0 a1=some y) {w:World} {v0:Value} :
  Spec Tryz.prog 102 [v0,.int .u8 a1].toArray w [] [(false,.box 163 Qg.rep v0 a0)] (λ v Γr Ωr Ωo=>∃ u0:Value,v=u0∧Γr=[(true,.val Sensor_.rep u0 y.1)]∧Ωr=[]∧Ωo=[(false,.box 163 Qg.rep v0 y.2)]):=by
 refine Spec.of (L:=[(0,v0),(1,.int .u8 a1)]) Tryz.func102 rfl ⟨rfl,rfl,trivial⟩ rfl (λ e h=>?_)
 unfold Qdv at hF
 refine sr (op (OpS.alloc h ti74 Sensor_.zr rfl rfl (λ u1 w1 h1=>?_)))
 refine nil (sr (gm rfl (gm rfl ?_)))
 obtain ⟨y1,e1,hF⟩:=Qa hF
 have h2:=h1.front (.cons (.s .z) .nil)
 refine op (OpS.callO h2 Tryz.func54 rfl rfl rfl rfl (vs:=[v0,.int .i64 4]) rfl (Qj e1) rfl .nil ?_)
 rintro _ w2 _ _ _ ⟨rfl,rfl,rfl,rfl⟩ h3
 have h4:=h3
 simp only [ca,na] at h4
 refine gb rfl (op (OpS.conv Tryz.underlying3 Tryz.underlying5 rfl rfl rfl ?_))
 refine gm rfl ?_
 obtain ⟨y2,e2,hF⟩:=Qa hF
 have h5:=h4.front (.cons .z .nil)
 refine op (OpS.callO h5 Tryz.func76 rfl rfl rfl rfl (vs:=[v0]) rfl (Qdd e2) rfl .nil ?_)
 rintro _ w3 _ _ _ ⟨rfl,rfl,rfl,rfl⟩ h6
 have h7:=h6
 simp only [ca,na] at h7
 refine gm rfl (gm rfl ?_)
 obtain ⟨y3,e3,hF⟩:=Qa hF
 have h8:=h7.front (.cons .z .nil)
 refine op (OpS.callO h8 Tryz.func54 rfl rfl rfl rfl (vs:=[v0,.int .i64 16]) rfl (Qj e3) rfl .nil ?_)
 rintro _ w4 _ _ _ ⟨rfl,rfl,rfl,rfl⟩ h9
 have h10:=h9
 simp only [ca,na] at h10
 refine gb rfl ?_
 obtain ⟨y4,e4,hF⟩:=Qa hF
 have h11:=h10.front (.cons .z .nil)
 refine op (OpS.callO h11 Tryz.func170 rfl rfl rfl rfl (vs:=[v0,(.string ⟨#[67,80,85,32,84,101,109,112,46,48,49,57]⟩),.int .i64 (IntKind.i64.wrap (1+y3.1))]) rfl (Qmh e4) rfl (.cons (f:=true) (V.str (f:=true)) .nil) ?_)
 rintro u2 w5 _ _ _ ⟨_,rfl,rfl,rfl,rfl⟩ h12
 have h13:=h12
 simp only [ca,na] at h13
 refine gm rfl ?_
 obtain ⟨y5,e5,hF⟩:=Qa hF
 have h14:=h13.front (.cons .z .nil)
 refine op (OpS.callO h14 Tryz.func32 rfl rfl rfl rfl (vs:=[v0]) rfl (Qhj e5) rfl .nil ?_)
 rintro u3 w6 _ _ _ ⟨_,rfl,rfl,rfl,rfl⟩ h15
 have h16:=h15
 simp only [ca,na] at h16
 refine gm rfl ?_
 obtain ⟨y6,e6,hF⟩:=Qa hF
 have h17:=h16.front (.cons .z .nil)
 refine op (OpS.callO h17 Tryz.func31 rfl rfl rfl rfl (vs:=[v0,.int .i64 4]) rfl (Qah e6) rfl .nil ?_)
 rintro _ w7 _ _ _ ⟨rfl,rfl,rfl,rfl⟩ h18
 have h19:=h18
 simp only [ca,na] at h19
 refine op (OpS.build (f:=true) (x':=(⟨a1,(IntKind.u8.wrap (IntKind.i64.wrap (1+y1.1))),y2.1,y4.1,y5.1,false,Conversion_.z,Thresholds_.z,0,0,0,0,0,y6.1,1⟩:Sensor_)) h19 pl74 ti74 Sensor_.zr rfl rfl rfl (.cons rfl Sensor_.f0 rfl V.int (.cons rfl Sensor_.f1 rfl V.int (.cons rfl Sensor_.f2 rfl V.int (.cons rfl Sensor_.f3 rfl (V.at (.s .z)) (.cons rfl Sensor_.f4 rfl (V.at .z) (.cons rfl Sensor_.f13 rfl V.bool (.cons rfl Sensor_.f14 rfl V.int .nil))))))) (λ u4 h20=>?_))
 refine op (OpS.alloc h20 ti74 Sensor_.zr rfl rfl (λ u5 w8 h21=>?_))
 refine op (OpS.storeB (f':=true) h21 .z PA.z Put.id ty74 rfl rfl rfl (V.at .z) (.inl rfl) (λ w9 h22=>?_))
 refine nil (Run.seq (sr (gm rfl ?_)))
 obtain ⟨y7,e7,hF⟩:=Qa hF
 have h23:=h22.front (.cons (.s .z) .nil)
 refine op (OpS.callO h23 Tryz.func31 rfl rfl rfl rfl (vs:=[v0,.int .i64 3]) rfl (Qah e7) rfl .nil ?_)
 rintro _ w10 _ _ _ ⟨rfl,rfl,rfl,rfl⟩ h24
 have h25:=h24
 simp only [ca,na] at h25
 refine nil ?_
 refine Run.ite rfl hF (λ e8 hF=>?_) (λ e8 hF=>?_)
 ·refine sr (op (OpS.fbox (o3:=6) h25 (.s .z) PA.z Qnn rfl rfl rfl rfl ?_))
  refine op (OpS.storeB (f':=true) h25 (.s .z) PA.a (Put.fld Sensor_.f5) ty4 rfl rfl rfl V.bool (.inl rfl) (λ w11 h26=>?_))
  refine nil (sr (gm rfl ?_))
  obtain ⟨y8,e9,hF⟩:=Qa hF
  have h27:=h26.front (.cons (.s .z) .nil)
  refine op (OpS.callO h27 Tryz.func54 rfl rfl rfl rfl (vs:=[v0,.int .i64 32768]) rfl (Qj e9) rfl .nil ?_)
  rintro _ w12 _ _ _ ⟨rfl,rfl,rfl,rfl⟩ h28
  have h29:=h28
  simp only [ca,na] at h29
  refine op (OpS.conv Tryz.underlying3 Tryz.underlying49 rfl rfl rfl ?_)
  refine op (OpS.fbox (o3:=23) h29 (.s .z) PA.z Qen rfl rfl rfl rfl ?_)
  refine op (OpS.storeB (f':=true) h29 (.s .z) PA.a (Put.fld Sensor_.f10) ty49 rfl rfl rfl V.int (.inl rfl) (λ w13 h30=>?_))
  refine nil (Run.seq ?_)
  obtain ⟨y9,e10,hF⟩:=Qa hF
  refine Run.drawV (Ωs:=[(true,.box 74 Sensor_.rep u1 Sensor_.z)]) [.kr 31 (padd u5 23) [0],.kr 32 (.int .u16 (IntKind.u16.wrap y8.1)) [0],.k 33 v0,⟨some 34,some (.int .i64 y9.1),λ _=>[],λ ds_ u_=>[(false,.box 163 Qg.rep v0 y9.2)],[1],[],none⟩,.k 35 (.int .u16 (IntKind.u16.wrap y9.1))] [[],[0],[],[2],[3]] [[(true,.box 74 Sensor_.rep u5 (⟨a1,(IntKind.u8.wrap (IntKind.i64.wrap (1+y1.1))),y2.1,y4.1,y5.1,true,Conversion_.z,Thresholds_.z,0,0,(IntKind.u16.wrap y8.1),0,0,y6.1,1⟩:Sensor_))],[(false,.box 163 Qg.rep v0 y8.2)]] [0,2,3,4,5,6] Qi rfl rfl rfl h30 (.cons ?_ (.cons ?_ (.cons ?_ (.cons ?_ (.cons ?_ .nil))))) (λ q1 w hq1 h=>?_)
  ·intro q1 w Γx Ωx h
   refine OpS.fbox (o3:=23) h .z PA.z Qen rfl rfl rfl rfl ?_
   exact du h
  ·intro q1 w Γx Ωx h
   refine OpS.loadBi h .z PA.a (Get.fld Sensor_.f10) ty49 rfl rfl rfl ?_
   exact du h
  ·intro q1 w Γx Ωx h
   refine OpS.mv rfl rfl rfl ?_
   exact du h
  ·intro q1 w Γx Ωx h
   have h34:=h.front (.cons .z .nil)
   refine OpS.callO h34 Tryz.func54 rfl rfl rfl rfl (vs:=[v0,.int .i64 4]) rfl (Qj e10) rfl .nil ?_
   rintro _ w15 _ _ _ ⟨rfl,rfl,rfl,rfl⟩ h35
   have h36:=h35
   simp only [ca,na] at h36
   exact ⟨undef,rfl,trivial,h36⟩
  ·intro q1 w Γx Ωx h
   refine OpS.conv Tryz.underlying3 Tryz.underlying49 rfl rfl rfl ?_
   exact du h
  have h37:=h
  refine gb rfl (op (OpS.fbox (o3:=24) h37 .z PA.z Qhp rfl rfl rfl rfl ?_))
  refine op (OpS.storeB (f':=true) h37 .z PA.a (Put.fld Sensor_.f11) ty49 rfl rfl rfl V.int (.inl rfl) (λ w16 h38=>?_))
  refine nil (Run.slim [(5,u5),(4,u1),(0,v0)] ⟨rfl,rfl,rfl,trivial⟩ ?_)
  refine Run.seq ?_
  obtain ⟨y10,e11,hF⟩:=Qa hF
  obtain ⟨y11,e12,hF⟩:=Qa hF
  refine Run.drawV (Ωs:=[(true,.box 74 Sensor_.rep u1 Sensor_.z)]) [.kr 38 (padd u5 23) [0],.kr 39 (.int .u16 (IntKind.u16.wrap y8.1)) [0],.k 40 v0,⟨some 41,some (.int .i64 y10.1),λ _=>[],λ ds_ u_=>[(false,.box 163 Qg.rep v0 y10.2)],[1],[],none⟩,.k 42 v0,⟨some 43,some (.int .i64 y11.1),λ _=>[],λ ds_ u_=>[(false,.box 163 Qg.rep v0 y11.2)],[5],[],none⟩,.k 44 (.int .i64 (IntKind.i64.wrap (y10.1*y11.1))),.k 45 (.int .u16 (IntKind.u16.wrap (IntKind.i64.wrap (y10.1*y11.1))))] [[],[0],[],[2],[],[4],[3,5],[6]] [[(true,.box 74 Sensor_.rep u5 (⟨a1,(IntKind.u8.wrap (IntKind.i64.wrap (1+y1.1))),y2.1,y4.1,y5.1,true,Conversion_.z,Thresholds_.z,0,0,(IntKind.u16.wrap y8.1),(bAndNot .u16 (IntKind.u16.wrap y8.1) (IntKind.u16.wrap y9.1)),0,y6.1,1⟩:Sensor_))],[(false,.box 163 Qg.rep v0 y9.2)]] [0,2,3,4,6,7,8,9] Qi rfl rfl rfl h38 (.cons ?_ (.cons ?_ (.cons ?_ (.cons ?_ (.cons ?_ (.cons ?_ (.cons ?_ (.cons ?_ .nil)))))))) (λ q2 w hq2 h=>?_)
  ·intro q2 w Γx Ωx h
   refine OpS.fbox (o3:=23) h .z PA.z Qen rfl rfl rfl rfl ?_
   exact du h
  ·intro q2 w Γx Ωx h
   refine OpS.loadBi h .z PA.a (Get.fld Sensor_.f10) ty49 rfl rfl rfl ?_
   exact du h
  ·intro q2 w Γx Ωx h
   refine OpS.mv rfl rfl rfl ?_
   exact du h
  ·intro q2 w Γx Ωx h
   have h45:=h.front (.cons .z .nil)
   refine OpS.callO h45 Tryz.func54 rfl rfl rfl rfl (vs:=[v0,.int .i64 4]) rfl (Qj e11) rfl .nil ?_
   rintro _ w19 _ _ _ ⟨rfl,rfl,rfl,rfl⟩ h46
   have h47:=h46
   simp only [ca,na] at h47
   exact ⟨undef,rfl,trivial,h47⟩
  ·intro q2 w Γx Ωx h
   refine OpS.mv rfl rfl rfl ?_
   exact du h
  ·intro q2 w Γx Ωx h
   have h48:=h.front (.cons .z .nil)
   refine OpS.callO h48 Tryz.func54 rfl rfl rfl rfl (vs:=[v0,.int .i64 300]) rfl (Qj e12) rfl .nil ?_
   rintro _ w20 _ _ _ ⟨rfl,rfl,rfl,rfl⟩ h49
   have h50:=h49
   simp only [ca,na] at h50
   exact ⟨undef,rfl,trivial,h50⟩
  ·intro q2 w Γx Ωx h
   refine OpS.bin rfl rfl rfl rfl rfl ?_
   exact du h
  ·intro q2 w Γx Ωx h
   refine OpS.conv Tryz.underlying3 Tryz.underlying49 rfl rfl rfl ?_
   exact du h
  have h51:=h
  refine gb rfl (op (OpS.fbox (o3:=25) h51 .z PA.z Qhs rfl rfl rfl rfl ?_))
  refine op (OpS.storeB (f':=true) h51 .z PA.a (Put.fld Sensor_.f12) ty49 rfl rfl rfl V.int (.inl rfl) (λ w21 h52=>?_))
  refine nil (sr (op (OpS.loadB h52 .z PA.z Get.id ty74 rfl rfl rfl (λ u6 h53=>?_))))
  refine op (OpS.storeB (f':=true) h53 (.s (.s .z)) PA.z Put.id ty74 rfl rfl rfl (V.at .z) (.inl rfl) (λ w22 h54=>?_))
  refine nil ?_
  obtain ⟨u7,hu1,h55⟩:=Qaq h54 .z ty74
  refine Run.retP rfl (.cell rfl hu1 .nil) ?_
  cases hF
  exact Post.mk' ⟨u7,rfl,rfl,rfl,rfl⟩ (h55.picks (.cons (.s (.s .z)) .nil)) (.val (V.at .z) .nil)
 refine Run.skip (sr (gm rfl ?_))
 obtain ⟨y12,e13,hF⟩:=Qa hF
 have h56:=h25.front (.cons .z .nil)
 refine op (OpS.callO h56 Tryz.func54 rfl rfl rfl rfl (vs:=[v0,.int .i64 3]) rfl (Qj e13) rfl .nil ?_)
 rintro _ w23 _ _ _ ⟨rfl,rfl,rfl,rfl⟩ h57
 have h58:=h57
 simp only [ca,na] at h58
 refine gb rfl (gb rfl (op (OpS.fbox (o3:=27) h58 (.s .z) PA.z Qga rfl rfl rfl rfl ?_)))
 refine op (OpS.storeB (f':=true) h58 (.s .z) PA.a (Put.fld Sensor_.f14) ty3 rfl rfl rfl V.int (.inl rfl) (λ w24 h59=>?_))
 refine nil (sr (gm rfl ?_))
 obtain ⟨y13,e14,hF⟩:=Qa hF
 have h60:=h59.front (.cons (.s .z) .nil)
 refine op (OpS.callO h60 Tryz.func171 rfl rfl rfl rfl (vs:=[v0]) rfl (Qjs e14) rfl .nil ?_)
 rintro u8 w25 _ _ _ ⟨_,rfl,rfl,rfl,rfl⟩ h61
 have h62:=h61
 simp only [ca,na] at h62
 refine op (OpS.fbox (o3:=7) h62 (.s .z) PA.z Qnq rfl rfl rfl rfl ?_)
 refine op (OpS.storeB (f':=true) h62 (.s .z) PA.a (Put.fld Sensor_.f6) ty69 rfl rfl rfl (V.at .z) (.inl rfl) (λ w26 h63=>?_))
 refine nil (sr (gm rfl (op (OpS.fbox (o3:=7) h63 .z PA.z Qnq rfl rfl rfl rfl ?_))))
 refine op (OpS.fbox (o3:=8) h63 .z PA.a Qns rfl rfl rfl rfl ?_)
 refine op (OpS.loadBb h63 .z PA.a (Get.comp (Get.fld Sensor_.f6) (Get.fld Conversion_.f1)) ty4 rfl rfl rfl ?_)
 obtain ⟨y14,e15,hF⟩:=Qa hF
 have h64:=h63.front (.cons (.s .z) .nil)
 refine op (OpS.callO h64 Tryz.func172 rfl rfl rfl rfl (vs:=[v0,.bool y13.1.Signed]) rfl (Qjq e15) rfl .nil ?_)
 rintro u9 w27 _ _ _ ⟨_,rfl,rfl,rfl,rfl⟩ h65
 have h66:=h65
 simp only [ca,na] at h66
 refine op (OpS.fbox (o3:=14) h66 (.s .z) PA.z Qnm rfl rfl rfl rfl ?_)
 refine op (OpS.storeB (f':=true) h66 (.s .z) PA.a (Put.fld Sensor_.f7) ty72 rfl rfl rfl (V.at .z) (.inl rfl) (λ w28 h67=>?_))
 refine nil (Run.slim [(5,u5),(4,u1),(0,v0)] ⟨rfl,rfl,rfl,trivial⟩ ?_)
 refine sr (gm rfl ?_)
 obtain ⟨y15,e16,hF⟩:=Qa hF
 have h68:=h67.front (.cons (.s .z) .nil)
 refine op (OpS.callO h68 Tryz.func54 rfl rfl rfl rfl (vs:=[v0,.int .i64 5]) rfl (Qj e16) rfl .nil ?_)
 rintro _ w29 _ _ _ ⟨rfl,rfl,rfl,rfl⟩ h69
 have h70:=h69
 simp only [ca,na] at h70
 refine op (OpS.conv Tryz.underlying3 Tryz.underlying5 rfl rfl rfl ?_)
 refine op (OpS.fbox (o3:=21) h70 (.s .z) PA.z Qru rfl rfl rfl rfl ?_)
 refine op (OpS.storeB (f':=true) h70 (.s .z) PA.a (Put.fld Sensor_.f8) ty5 rfl rfl rfl V.int (.inl rfl) (λ w30 h71=>?_))
 refine nil (sr (gm rfl ?_))
 obtain ⟨y16,e17,hF⟩:=Qa hF
 have h72:=h71.front (.cons (.s .z) .nil)
 refine op (OpS.callO h72 Tryz.func54 rfl rfl rfl rfl (vs:=[v0,.int .i64 5]) rfl (Qj e17) rfl .nil ?_)
 rintro _ w31 _ _ _ ⟨rfl,rfl,rfl,rfl⟩ h73
 have h74:=h73
 simp only [ca,na] at h74
 refine op (OpS.conv Tryz.underlying3 Tryz.underlying5 rfl rfl rfl ?_)
 refine op (OpS.fbox (o3:=22) h74 (.s .z) PA.z Qpj rfl rfl rfl rfl ?_)
 refine op (OpS.storeB (f':=true) h74 (.s .z) PA.a (Put.fld Sensor_.f9) ty5 rfl rfl rfl V.int (.inl rfl) (λ w32 h75=>?_))
 refine nil (Run.seq (sr (gm rfl ?_)))
 obtain ⟨y17,e18,hF⟩:=Qa hF
 have h76:=h75.front (.cons (.s .z) .nil)
 refine op (OpS.callO h76 Tryz.func31 rfl rfl rfl rfl (vs:=[v0,.int .i64 12]) rfl (Qah e18) rfl .nil ?_)
 rintro _ w33 _ _ _ ⟨rfl,rfl,rfl,rfl⟩ h77
 have h78:=h77
 simp only [ca,na] at h78
 refine nil ?_
 refine Run.join (σ:=(Qg×Sensor_)) (λ s_ L_ w_=>L_=[(0,v0),(4,u1),(5,u5)]∧St e w_ [] [(false,.box 163 Qg.rep v0 s_.1),(true,.box 74 Sensor_.rep u1 Sensor_.z),(true,.box 74 Sensor_.rep u5 s_.2)]) hF (λ s1 _ w34 hI hF=>?_) (λ j1 hj1 hF=>?_)
 ·obtain ⟨rfl,h79⟩:=hI
  refine sr (op (OpS.fbox (o3:=14) h79 (.s (.s .z)) PA.z Qnm rfl rfl rfl rfl ?_))
  refine op (OpS.fbox (o3:=14) h79 (.s (.s .z)) PA.a Qnt rfl rfl rfl rfl ?_)
  refine op (OpS.loadBi h79 (.s (.s .z)) PA.a (Get.comp (Get.fld Sensor_.f7) (Get.fld Thresholds_.f0)) ty5 rfl rfl rfl ?_)
  refine op (OpS.conv Tryz.underlying5 Tryz.underlying49 rfl rfl rfl ?_)
  refine ga rfl ?_
  obtain ⟨x1,e19,hF⟩:=Qh hF
  refine RunL.name e19 ?_
  refine nil (sr (gm rfl (op (OpS.fbox (o3:=24) h79 (.s (.s .z)) PA.z Qhp rfl rfl rfl rfl ?_))))
  obtain ⟨d1,e20,hF⟩:=Qh hF
  refine op (OpS.storeB (f':=true) h79 (.s (.s .z)) PA.a (Put.of (Put.fld Sensor_.f11) e20) ty49 rfl rfl rfl V.int (.inl rfl) (λ w35 h80=>?_))
  refine nil (sr (gm rfl (op (OpS.fbox (o3:=25) h80 .z PA.z Qhs rfl rfl rfl rfl ?_))))
  obtain ⟨d2,e21,hF⟩:=Qh hF
  refine op (OpS.storeB (f':=true) h80 .z PA.a (Put.of (Put.fld Sensor_.f12) e21) ty49 rfl rfl rfl V.int (.inl rfl) (λ w36 h81=>?_))
  refine nil (Run.seq (sr (gm rfl ?_)))
  obtain ⟨y18,e22,hF⟩:=Qa hF
  have h82:=h81.front (.cons (.s .z) .nil)
  refine op (OpS.callO h82 Tryz.func31 rfl rfl rfl rfl (vs:=[v0,.int .i64 3]) rfl (Qah e22) rfl .nil ?_)
  rintro _ w37 _ _ _ ⟨rfl,rfl,rfl,rfl⟩ h83
  have h84:=h83
  simp only [ca,na] at h84
  refine nil ?_
  refine Run.ite rfl hF (λ e23 hF=>?_) (λ e23 hF=>?_)
  ·refine sr (gm rfl (gm rfl ?_))
   obtain ⟨y19,e24,hF⟩:=Qa hF
   have h85:=h84.front (.cons .z .nil)
   refine op (OpS.callO h85 Tryz.func54 rfl rfl rfl rfl (vs:=[v0,.int .i64 64]) rfl (Qj e24) rfl .nil ?_)
   rintro _ w38 _ _ _ ⟨rfl,rfl,rfl,rfl⟩ h86
   have h87:=h86
   simp only [ca,na] at h87
   refine op (OpS.conv Tryz.underlying3 Tryz.underlying49 rfl rfl rfl ?_)
   refine gb rfl (op (OpS.fbox (o3:=24) h87 (.s .z) PA.z Qhp rfl rfl rfl rfl ?_))
   obtain ⟨d3,e25,hF⟩:=Qh hF
   refine op (OpS.storeB (f':=true) h87 (.s .z) PA.a (Put.of (Put.fld Sensor_.f11) e25) ty49 rfl rfl rfl V.int (.inl rfl) (λ w39 h88=>?_))
   refine nil (Run.reg (gm rfl (gm rfl ?_)))
   obtain ⟨y20,e26,hF⟩:=Qa hF
   have h89:=h88.front (.cons (.s .z) .nil)
   refine op (OpS.callO h89 Tryz.func54 rfl rfl rfl rfl (vs:=[v0,.int .i64 64]) rfl (Qj e26) rfl .nil ?_)
   rintro _ w40 _ _ _ ⟨rfl,rfl,rfl,rfl⟩ h90
   have h91:=h90
   simp only [ca,na] at h91
   refine op (OpS.conv Tryz.underlying3 Tryz.underlying49 rfl rfl rfl ?_)
   refine gb rfl (op (OpS.fbox (o3:=25) h91 (.s .z) PA.z Qhs rfl rfl rfl rfl ?_))
   obtain ⟨d4,e27,hF⟩:=Qh hF
   refine op (OpS.storeB (f':=true) h91 (.s .z) PA.a (Put.of (Put.fld Sensor_.f12) e27) ty49 rfl rfl rfl V.int (.inl rfl) (λ w41 h92=>?_))
   refine nil (sr (op (OpS.loadB h92 .z PA.z Get.id ty74 rfl rfl rfl (λ u10 h93=>?_))))
   refine op (OpS.storeB (f':=true) h93 (.s (.s .z)) PA.z Put.id ty74 rfl rfl rfl (V.at .z) (.inl rfl) (λ w42 h94=>?_))
   refine nil ?_
   obtain ⟨u11,hu2,h95⟩:=Qaq h94 .z ty74
   refine Run.retP rfl (.cell rfl hu2 .nil) ?_
   cases hF
   exact Post.mk' ⟨u11,rfl,rfl,rfl,rfl⟩ (h95.picks (.cons (.s (.s .z)) .nil)) (.val (V.at .z) .nil)
  refine Run.skip (sr (op (OpS.loadB h84 (.s .z) PA.z Get.id ty74 rfl rfl rfl (λ u12 h96=>?_))))
  refine op (OpS.storeB (f':=true) h96 (.s (.s .z)) PA.z Put.id ty74 rfl rfl rfl (V.at .z) (.inl rfl) (λ w43 h97=>?_))
  refine nil ?_
  obtain ⟨u13,hu3,h98⟩:=Qaq h97 .z ty74
  refine Run.retP rfl (.cell rfl hu3 .nil) ?_
  cases hF
  exact Post.mk' ⟨u13,rfl,rfl,rfl,rfl⟩ (h98.picks (.cons (.s .z) .nil)) (.val (V.at .z) .nil)
 refine Run.ite rfl hF (λ e28 hF=>?_) (λ e28 hF=>?_)
 ·refine Run.reg (gm rfl ?_)
  obtain ⟨y21,e29,hF⟩:=Qa hF
  have h99:=h78.front (.cons .z .nil)
  refine op (OpS.callO h99 Tryz.func76 rfl rfl rfl rfl (vs:=[v0]) rfl (Qdd e29) rfl .nil ?_)
  rintro _ w44 _ _ _ ⟨rfl,rfl,rfl,rfl⟩ h100
  have h101:=h100
  simp only [ca,na] at h101
  refine op (OpS.fbox (o3:=22) h101 (.s .z) PA.z Qpj rfl rfl rfl rfl ?_)
  refine op (OpS.storeB (f':=true) h101 (.s .z) PA.a (Put.fld Sensor_.f9) ty5 rfl rfl rfl V.int (.inl rfl) (λ w45 h102=>?_))
  refine nil (Run.slim [(0,v0),(4,u1),(5,u5)] ⟨rfl,rfl,rfl,trivial⟩ ?_)
  exact hj1 (y21.2,(⟨a1,(IntKind.u8.wrap (IntKind.i64.wrap (1+y1.1))),y2.1,y4.1,y5.1,false,y13.1,y14.1,(IntKind.u8.wrap y15.1),y21.1,0,0,0,y6.1,(IntKind.i64.wrap (1+(IntKind.i64.wrap (2*y12.1))))⟩:Sensor_)) _ _ ⟨rfl,(h102.facts .nil).picks (.cons (.s .z) (.cons (.s .z) (.cons .z .nil)))⟩ hF
 refine Run.skip (Run.slim [(0,v0),(4,u1),(5,u5)] ⟨rfl,rfl,rfl,trivial⟩ ?_)
 exact hj1 (y17.2,(⟨a1,(IntKind.u8.wrap (IntKind.i64.wrap (1+y1.1))),y2.1,y4.1,y5.1,false,y13.1,y14.1,(IntKind.u8.wrap y15.1),(IntKind.u8.wrap y16.1),0,0,0,y6.1,(IntKind.i64.wrap (1+(IntKind.i64.wrap (2*y12.1))))⟩:Sensor_)) _ _ ⟨rfl,(h78.facts .nil).picks (.cons .z (.cons (.s .z) (.cons .z .nil)))⟩ hF
theorem Qlb {fuel:Nat} {a0:Qg} {a1:Int} {y:(List Sensor_)×Qg} (hF:Qde fuel a0 a1=some y) {w:World} {v0:Value} :
  Spec Tryz.prog 40 [v0,.int .i64 a1].toArray w [] [(false,.box 163 Qg.rep v0 a0)] (λ v Γr Ωr Ωo=>∃ u0:Value,v=u0∧Γr=[]∧Ωr=[(true,(.slice 74 Sensor_.rep u0 y.1))]∧Ωo=[(false,.box 163 Qg.rep v0 y.2)]):=by
 refine Spec.of (L:=[(0,v0),(1,.int .i64 a1)]) Tryz.func40 rfl ⟨rfl,rfl,trivial⟩ rfl (λ e h=>?_)
 unfold Qde at hF
 refine sr (ga rfl (nil (sr (ga rfl (nil (sr (gm rfl ?_)))))))
 obtain ⟨y1,e1,hF⟩:=Qa hF
 have h1:=h.front (.cons .z .nil)
 refine op (OpS.callO h1 Tryz.func54 rfl rfl rfl rfl (vs:=[v0,.int .i64 20]) rfl (Qj e1) rfl .nil ?_)
 rintro _ w1 _ _ _ ⟨rfl,rfl,rfl,rfl⟩ h2
 have h3:=h2
 simp only [ca,na] at h3
 refine ga rfl (nil (Run.seq (sr (gm rfl (gm rfl (gb rfl ?_))))))
 obtain ⟨y2,e2,hF⟩:=Qa hF
 have h4:=h3.front (.cons .z .nil)
 refine op (OpS.callO h4 Tryz.func54 rfl rfl rfl rfl (vs:=[v0,.int .i64 (IntKind.i64.wrap (a1+1))]) rfl (Qj e2) rfl .nil ?_)
 rintro _ w2 _ _ _ ⟨rfl,rfl,rfl,rfl⟩ h5
 have h6:=h5
 simp only [ca,na] at h6
 refine ga rfl (nil (Run.block ?_))
 have h7:=St.nil 74 Sensor_.rep h6
 refine Run.slim [(0,v0),(5,(.slice none 0 0)),(6,.int .i64 y1.1),(7,.int .i64 y2.1)] ⟨rfl,rfl,rfl,rfl,trivial⟩ ?_
 refine Run.loopP (σ:=(Int×Int×Qg×(List Sensor_))) (λ s_ L_ w_=>∃ u0_:Value,L_=[(0,v0),(5,u0_),(6,.int .i64 s_.1),(7,.int .i64 s_.2.1)]∧St e w_ [] [(false,.box 163 Qg.rep v0 s_.2.2.1),(true,.slice 74 Sensor_.rep u0_ s_.2.2.2)]) hF ⟨(.slice none 0 0),rfl,(h7.facts .nil).picks (.cons (.s .z) (.cons .z .nil))⟩ (λ k1 hk1 s1 _ w3 hI hF=>?_)
 obtain ⟨u1,rfl,h8⟩:=hI
 refine Run.seq (sr (gm rfl (gb rfl (nil ?_))))
 refine Run.ite rfl hF (λ e3 hF=>?_) (λ e3 hF=>?_)
 ·refine Run.skip (Run.seq (Run.block (sr (gm rfl (gm rfl (gm rfl (op (OpS.conv Tryz.underlying3 Tryz.underlying5 rfl rfl rfl ?_))))))))
  obtain ⟨y3,e4,hF⟩:=Qa hF
  have h9:=h8.front (.cons .z .nil)
  refine op (OpS.callO h9 Tryz.func102 rfl rfl rfl rfl (vs:=[v0,.int .u8 (IntKind.u8.wrap s1.1)]) rfl (Qll e4) rfl .nil ?_)
  rintro u2 w4 _ _ _ ⟨_,rfl,rfl,rfl,rfl⟩ h10
  have h11:=h10
  simp only [ca,na] at h11
  refine op (OpS.lit (r:=Sensor_.rep) (f:=true) h11 Tryz.underlying27 ti74 rfl rfl rfl rfl rfl (.cons rfl (V.at .z) .nil) rfl rfl (λ u3 w5 h12=>?_))
  obtain ⟨x1,e5,hF⟩:=Qa hF
  refine op (OpS.app (f':=true) h12 (.s .z) Tryz.underlying27 ti74 rfl rfl rfl rfl rfl rfl rfl (V.at .z) (.inl (.inl rfl)) e5 (λ u4 w6 h13=>?_))
  refine ga rfl (nil (Run.reg (gm rfl (gm rfl ?_))))
  obtain ⟨y4,e6,hF⟩:=Qa hF
  have h14:=h13.front (.cons (.s .z) .nil)
  refine op (OpS.callO h14 Tryz.func54 rfl rfl rfl rfl (vs:=[v0,.int .i64 5]) rfl (Qj e6) rfl .nil ?_)
  rintro _ w7 _ _ _ ⟨rfl,rfl,rfl,rfl⟩ h15
  have h16:=h15
  simp only [ca,na] at h16
  refine gb rfl (gb rfl (ga rfl ?_))
  obtain ⟨x2,e7,hF⟩:=Qh hF
  refine RunL.name e7 ?_
  refine nil (Run.endBlock (Run.reg (gm rfl (gb rfl (ga rfl ?_)))))
  obtain ⟨x3,e8,hF⟩:=Qh hF
  refine RunL.name e8 ?_
  refine nil (Run.slim [(0,v0),(5,u4),(6,.int .i64 x2),(7,.int .i64 x3)] ⟨rfl,rfl,rfl,rfl,trivial⟩ ?_)
  exact hk1 (x2,x3,y4.2,x1) _ _ ⟨u4,rfl,(h16.facts .nil).picks (.cons .z (.cons .z .nil))⟩ hF
 refine Run.exit rfl ?_
 refine sr (gm rfl (ga rfl (nil (Run.retP rfl (.tmp rfl .nil) ?_))))
 cases hF
 exact Post.mk' ⟨u1,rfl,rfl,rfl,rfl⟩ (h8.picks (.cons (.s .z) (.cons .z .nil))) .nil
theorem Qng {fuel:Nat} {a0:Qg} {a1:Int} {y:(List Sensor_)×Qg} (hF:Qgj fuel a0 a1=some y) {w:World} {v0:Value} :
  Spec Tryz.prog 11 [v0,.int .i64 a1].toArray w [] [(false,.box 163 Qg.rep v0 a0)] (λ v Γr Ωr Ωo=>∃ u0:Value,v=u0∧Γr=[]∧Ωr=[(true,(.slice 74 Sensor_.rep u0 y.1))]∧Ωo=[(false,.box 163 Qg.rep v0 y.2)]):=by
 refine Spec.of (L:=[(0,v0),(1,.int .i64 a1)]) Tryz.func11 rfl ⟨rfl,rfl,trivial⟩ rfl (λ e h=>?_)
 unfold Qgj at hF
 refine sr (ga rfl (nil (sr (gm rfl (gm rfl ?_)))))
 obtain ⟨y1,e1,hF⟩:=Qa hF
 have h1:=h.front (.cons .z .nil)
 refine op (OpS.callO h1 Tryz.func40 rfl rfl rfl rfl (vs:=[v0,.int .i64 a1]) rfl (Qlb e1) rfl .nil ?_)
 rintro u1 w1 _ _ _ ⟨_,rfl,rfl,rfl,rfl⟩ h2
 have h3:=h2
 simp only [ca,na] at h3
 refine ga rfl (nil (Run.seq (sr (ga rfl (nil (Run.block (Run.slim [(5,u1),(6,.int .i64 0)] ⟨rfl,rfl,trivial⟩ ?_)))))))
 refine Run.loopP (σ:=(Int×(List Sensor_))) (λ s_ L_ w_=>L_=[(5,u1),(6,.int .i64 s_.1)]∧St e w_ [] [(false,.box 163 Qg.rep v0 y1.2),(true,.slice 74 Sensor_.rep u1 s_.2)]) hF ⟨rfl,(h3.facts .nil).picks (.cons (.s .z) (.cons .z .nil))⟩ (λ k1 hk1 s1 _ w2 hI hF=>?_)
 obtain ⟨rfl,h4⟩:=hI
 refine Run.seq (sr (gm rfl (gm rfl (op (OpS.lenO h4 (.s .z) Tryz.underlying27 rfl rfl rfl ?_)))))
 refine gb rfl (nil ?_)
 refine Run.ite rfl hF (λ e2 hF=>?_) (λ e2 hF=>?_)
 ·refine Run.skip (Run.seq (Run.block (sr (gm rfl (gm rfl ?_)))))
  obtain ⟨x1,e3,hF⟩:=Qa hF
  refine op (OpS.iown h4 (.s .z) Tryz.underlying27 ty74 rfl rfl rfl rfl e3 ?_)
  refine op (OpS.fown h4 (.s .z) (Qnl e3) PA.a Qen rfl rfl rfl ?_)
  refine op (OpS.loadOi h4 (.s .z) (Qnl e3) PA.a (Get.comp (Get.arr e3) (Get.fld Sensor_.f10)) ty49 rfl rfl rfl ?_)
  refine ga rfl (nil (Run.seq (sr (gm rfl (gm rfl ?_)))))
  obtain ⟨x2,e4,hF⟩:=Qa hF
  refine op (OpS.iown h4 (.s .z) Tryz.underlying27 ty74 rfl rfl rfl rfl e4 ?_)
  refine op (OpS.fown h4 (.s .z) (Qnl e4) PA.a Qnn rfl rfl rfl ?_)
  refine op (OpS.loadOb h4 (.s .z) (Qnl e4) PA.a (Get.comp (Get.arr e4) (Get.fld Sensor_.f5)) ty4 rfl rfl rfl ?_)
  refine op (OpS.not rfl rfl rfl ?_)
  refine nil ?_
  refine Run.join (σ:=Int) (λ s_ L_ w_=>L_=[(5,u1),(6,.int .i64 s1.1),(7,.int .u16 s_)]∧St e w_ [] [(false,.box 163 Qg.rep v0 y1.2),(true,.slice 74 Sensor_.rep u1 s1.2)]) hF (λ s2 _ w3 hI hF=>?_) (λ j1 hj1 hF=>?_)
  ·obtain ⟨rfl,h5⟩:=hI
   refine Run.reg (gm rfl (gm rfl (gm rfl (gm rfl (gm rfl (gm rfl (gm rfl (gm rfl ?_))))))))
   obtain ⟨x3,e5,hF⟩:=Qa hF
   refine op (OpS.iown h5 (.s .z) Tryz.underlying27 ty74 rfl rfl rfl rfl e5 ?_)
   refine op (OpS.fown h5 (.s .z) (Qnl e5) PA.a Qhp rfl rfl rfl ?_)
   obtain ⟨d1,e6,hF⟩:=Qh hF
   refine op (OpS.storeO (f':=true) h5 (.s .z) (Qnl e5) PA.a (Put.of (Put.comp (Get.arr e5) (Put.fld Sensor_.f11) (Put.arr e5)) e6) ty49 rfl rfl rfl V.int (.inl rfl) (λ w4 h6=>?_))
   obtain ⟨x4,e7,hF⟩:=Qa hF
   refine op (OpS.iown h6 .z Tryz.underlying27 ty74 rfl rfl rfl rfl e7 ?_)
   refine op (OpS.fown h6 .z (Qnl e7) PA.a Qhs rfl rfl rfl ?_)
   obtain ⟨d2,e8,hF⟩:=Qh hF
   refine op (OpS.storeO (f':=true) h6 .z (Qnl e7) PA.a (Put.of (Put.comp (Get.arr e7) (Put.fld Sensor_.f12) (Put.arr e7)) e8) ty49 rfl rfl rfl V.int (.inl rfl) (λ w5 h7=>?_))
   obtain ⟨x5,e9,hF⟩:=Qa hF
   refine op (OpS.iown h7 .z Tryz.underlying27 ty74 rfl rfl rfl rfl e9 ?_)
   refine op (OpS.fown h7 .z (Qnl e9) PA.a Qga rfl rfl rfl ?_)
   obtain ⟨d3,e10,hF⟩:=Qh hF
   refine op (OpS.storeO (f':=true) h7 .z (Qnl e9) PA.a (Put.of (Put.comp (Get.arr e9) (Put.fld Sensor_.f14) (Put.arr e9)) e10) ty3 rfl rfl rfl V.int (.inl rfl) (λ w6 h8=>?_))
   refine nil (Run.endBlock (Run.reg (gm rfl (gb rfl (ga rfl ?_)))))
   obtain ⟨x6,e11,hF⟩:=Qh hF
   refine RunL.name e11 ?_
   refine nil (Run.slim [(5,u1),(6,.int .i64 x6)] ⟨rfl,rfl,trivial⟩ ?_)
   exact hk1 (x6,d3) _ _ ⟨rfl,(h8.facts .nil).picks (.cons (.s .z) (.cons .z .nil))⟩ hF
  refine Run.ite rfl hF (λ e12 hF=>?_) (λ e12 hF=>?_)
  ·refine Run.reg (gm rfl (gm rfl ?_))
   obtain ⟨x7,e13,hF⟩:=Qa hF
   refine op (OpS.iown h4 (.s .z) Tryz.underlying27 ty74 rfl rfl rfl rfl e13 ?_)
   refine op (OpS.fown h4 (.s .z) (Qnl e13) PA.a Qnm rfl rfl rfl ?_)
   refine op (OpS.fown h4 (.s .z) (Qnl e13) PA.a Qnt rfl rfl rfl ?_)
   refine op (OpS.loadOi h4 (.s .z) (Qnl e13) PA.a (Get.comp (Get.comp (Get.arr e13) (Get.fld Sensor_.f7)) (Get.fld Thresholds_.f0)) ty5 rfl rfl rfl ?_)
   refine op (OpS.conv Tryz.underlying5 Tryz.underlying49 rfl rfl rfl ?_)
   refine ga rfl ?_
   obtain ⟨x8,e14,hF⟩:=Qh hF
   refine RunL.name e14 ?_
   refine nil (Run.slim [(5,u1),(6,.int .i64 s1.1),(7,.int .u16 x8)] ⟨rfl,rfl,rfl,trivial⟩ ?_)
   exact hj1 (x8) _ _ ⟨rfl,(h4.facts .nil).picks (.cons .z (.cons .z .nil))⟩ hF
  refine Run.skip (Run.slim [(5,u1),(6,.int .i64 s1.1),(7,.int .u16 x1.States)] ⟨rfl,rfl,rfl,trivial⟩ ?_)
  exact hj1 (x1.States) _ _ ⟨rfl,(h4.facts .nil).picks (.cons .z (.cons .z .nil))⟩ hF
 refine Run.exit rfl ?_
 refine sr (gm rfl (ga rfl (nil (Run.retP rfl (.tmp rfl .nil) ?_))))
 cases hF
 exact Post.mk' ⟨u1,rfl,rfl,rfl,rfl⟩ (h4.picks (.cons (.s .z) (.cons .z .nil))) .nil
theorem Qif {fuel:Nat} {a0:List Int} {a1:Int} {y:Int} (hF:Qdu fuel a0 a1=some y) {w:World} {v0:Value} :
  Spec Tryz.prog 105 [v0,.int .u8 a1].toArray w [(false,.val (Rep.slice (Rep.int .u8)) v0 a0)] [] (λ v Γr Ωr Ωo=>v=.int .i64 y∧Γr=[]∧Ωr=[]∧Ωo=[]):=by
 refine Spec.of (L:=[(0,v0),(1,.int .u8 a1)]) Tryz.func105 rfl ⟨rfl,rfl,trivial⟩ rfl (λ e h=>?_)
 unfold Qdu at hF
 refine sr (ga rfl (nil (Run.seq (sr (gm rfl (op (OpS.len h Tryz.underlying24 rfl rfl rfl (V.at .z) ?_)))))))
 refine gm rfl (nil (Run.block (Run.slim [(0,v0),(1,.int .u8 a1),(7,.int .i64 (a0.length:Int)),(8,.int .i64 0)] ⟨rfl,rfl,rfl,rfl,trivial⟩ ?_)))
 refine Run.loopP (σ:=Int) (λ s_ L_ w_=>L_=[(0,v0),(1,.int .u8 a1),(7,.int .i64 (a0.length:Int)),(8,.int .i64 s_)]∧St e w_ [(false,.val (Rep.slice (Rep.int .u8)) v0 a0)] []) hF ⟨rfl,(h.facts (.atm .z .nil)).picks .nil⟩ (λ k1 hk1 s1 _ w1 hI hF=>?_)
 obtain ⟨rfl,h1⟩:=hI
 refine sr (gb rfl (nil (Run.seq ?_)))
 refine Run.ite rfl hF (λ e1 hF=>?_) (λ e1 hF=>?_)
 ·refine Run.skip (Run.seq (Run.block (sr (gm rfl (ga rfl (nil (sr (gm rfl (gm rfl (gm rfl ?_))))))))))
  obtain ⟨x1,e2,hF⟩:=Qa hF
  refine op (OpS.iptr h1 Tryz.underlying24 ty5 rfl rfl rfl rfl (V.at .z) e2 (λ u1 h2=>?_))
  refine op (OpS.loadi h2 ty5 rfl rfl rfl .z ?_)
  refine gb rfl (nil ?_)
  refine Run.ite rfl hF (λ e3 hF=>?_) (λ e3 hF=>?_)
  ·refine sr (gm rfl (ga rfl (nil (Run.retP rfl (.tmp rfl .nil) ?_))))
   cases hF
   exact Post.mk' ⟨rfl,rfl,rfl,rfl⟩ (h2.picks .nil) .nil
  refine Run.skip (Run.endBlock (Run.reg (gb rfl (gm rfl (nil (Run.slim [(0,v0),(1,.int .u8 a1),(7,.int .i64 (a0.length:Int)),(8,.int .i64 (IntKind.i64.wrap (s1+1)))] ⟨rfl,rfl,rfl,rfl,trivial⟩ ?_))))))
  exact hk1 ((IntKind.i64.wrap (s1+1))) _ _ ⟨rfl,(h2.facts (.atm (.s .z) .nil)).picks .nil⟩ hF
 refine Run.exit rfl ?_
 refine sr (ga rfl (nil (Run.retP rfl (.tmp rfl .nil) ?_)))
 cases hF
 exact Post.mk' ⟨rfl,rfl,rfl,rfl⟩ (h1.picks .nil) .nil
set_option maxRecDepth 20000 in
theorem Qni {fuel:Nat} {a0:Event_} {y:Int×Bool×Bool} (hF:Qel fuel a0=some y) {w:World} {v0:Value} :
  Spec Tryz.prog 38 [v0].toArray w [(false,.val Event_.rep v0 a0),GqD] [] (λ v Γr Ωr Ωo=>v=.tuple #[.int .i64 y.1,.bool y.2.1,.bool y.2.2]∧Γr=[]∧Ωr=[]∧Ωo=[]):=by
 refine Spec.of (L:=[(0,v0)]) Tryz.func38 rfl ⟨rfl,trivial⟩ rfl (λ e h=>?_)
 unfold Qel at hF
 refine sr (op (OpS.boxF h rfl rfl rfl (V.at .z) (λ u1 w1 h1=>?_)))
 refine ga rfl (ga rfl (ga rfl (nil (Run.seq (Run.block (sr (op (OpS.fbox (o3:=5) h1 .z PA.z Qpl rfl rfl rfl rfl ?_))))))))
 refine op (OpS.loadBi h1 .z PA.a (Get.fld Event_.f5) ty5 rfl rfl rfl ?_)
 refine gb rfl (ga rfl ?_)
 obtain ⟨x1,e1,hF⟩:=Qh hF
 refine RunL.nameb e1 ?_
 refine nil ?_
 refine Run.ite rfl hF (λ e2 hF=>?_) (λ e2 hF=>?_)
 ·refine Run.seq ?_
  obtain ⟨x2,e3,hF⟩:=Qa hF
  obtain ⟨e4,hF⟩:=Qr hF
  refine Run.drawV (Ωs:=[]) [.f 10 (λ u_=>[(false,.val (Rep.slice (Rep.int .u8)) u_ ([0,2,4,7,9,11]))]),.kr 11 (padd u1 7) [0],.kr 12 (padd u1 (7+(0:Int).toNat*(Rep.int .u8).n)) [0],.kr 13 (.int .u8 x2) [0],.k 14 (.int .u8 (IntKind.u8.wrap (x2-80)))] [[],[],[1],[2],[3]] [[(false,.box 55 Event_.rep u1 a0)]] [0,1,2,3,4,5] Qi rfl rfl rfl h1 (.cons ?_ (.cons ?_ (.cons ?_ (.cons ?_ (.cons ?_ .nil))))) (λ q1 w hq1 h=>?_)
  ·intro q1 w Γx Ωx h
   refine OpS.sarr h Tryz.underlying70 ty5 rfl rfl rfl rfl (.s .z) (λ u h3=>?_)
   exact ⟨u,rfl,trivial,h3⟩
  ·intro q1 w Γx Ωx h
   refine OpS.fbox (o3:=7) h .z PA.z Qoa rfl rfl rfl rfl ?_
   exact du h
  ·intro q1 w Γx Ωx h
   refine OpS.ibox h .z PA.a Tryz.underlying53 ty5 (Nat.eq_of_beq_eq_true e4) rfl rfl rfl rfl e3 ?_
   exact du h
  ·intro q1 w Γx Ωx h
   refine OpS.loadBi h .z PA.a (Get.comp (Get.fld Event_.f7) (Get.arr e3)) ty5 rfl rfl rfl ?_
   exact du h
  ·intro q1 w Γx Ωx h
   refine OpS.bin rfl rfl rfl rfl rfl ?_
   exact du h
  have h4:=h
  obtain ⟨y1,e5,hF⟩:=Qa hF
  refine op (OpS.callP h4 Tryz.func105 rfl rfl rfl rfl (vs:=[(q1 0),.int .u8 (IntKind.u8.wrap (x2-80))]) rfl (Qif e5) (.cons (f:=false) (V.at .z) .nil) ?_)
  rintro _ w2 _ _ _ ⟨rfl,rfl,rfl,rfl⟩ h5
  have h6:=h5 rfl rfl
  simp only [ca,na] at h6
  refine ga rfl (nil (sr (gm rfl (gb rfl (nil ?_)))))
  refine Run.ite rfl hF (λ e6 hF=>?_) (λ e6 hF=>?_)
  ·refine sr (gm rfl (ga rfl (ga rfl (ga rfl (nil (Run.retP rfl (.tmp rfl (.tmp rfl (.tmp rfl .nil))) ?_))))))
   cases hF
   exact Post.mk' ⟨rfl,rfl,rfl,rfl⟩ (h6.picks .nil) .nil
  refine Run.skip (Run.endBlock (sr (ga rfl (ga rfl (ga rfl (nil (Run.retP rfl (.tmp rfl (.tmp rfl (.tmp rfl .nil))) ?_)))))))
  cases hF
  exact Post.mk' ⟨rfl,rfl,rfl,rfl⟩ (h6.picks .nil) .nil
 refine sr (op (OpS.fbox (o3:=5) h1 .z PA.z Qpl rfl rfl rfl rfl ?_))
 refine op (OpS.loadBi h1 .z PA.a (Get.fld Event_.f5) ty5 rfl rfl rfl ?_)
 refine gb rfl (gm rfl ?_)
 refine RunL.join (σ:=Bool) (λ s_ L_ w_=>L_=[(1,u1),(19,.bool s_)]∧St e w_ [GqD] [(false,.box 55 Event_.rep u1 a0)]) hF (λ s1 _ w3 hI hF=>?_) (λ j1 hj1 hF=>?_)
 ·obtain ⟨rfl,h7⟩:=hI
  refine Run.ite rfl hF (λ e7 hF=>?_) (λ e7 hF=>?_)
  ·refine sr (op (OpS.fbox (o3:=7) h7 .z PA.z Qoa rfl rfl rfl rfl ?_))
   obtain ⟨x3,e8,hF⟩:=Qa hF
   obtain ⟨e9,hF⟩:=Qr hF
   refine op (OpS.ibox h7 .z PA.a Tryz.underlying53 ty5 (Nat.eq_of_beq_eq_true e9) rfl rfl rfl rfl e8 ?_)
   refine op (OpS.loadBi h7 .z PA.a (Get.comp (Get.fld Event_.f7) (Get.arr e8)) ty5 rfl rfl rfl ?_)
   refine op (OpS.conv Tryz.underlying5 Tryz.underlying3 rfl rfl rfl ?_)
   refine ga rfl (ga rfl (ga rfl (nil (Run.retP rfl (.tmp rfl (.tmp rfl (.tmp rfl .nil))) ?_))))
   cases hF
   exact Post.mk' ⟨rfl,rfl,rfl,rfl⟩ (h7.picks .nil) .nil
  refine Run.skip (Run.endBlock (sr (ga rfl (ga rfl (ga rfl (nil (Run.retP rfl (.tmp rfl (.tmp rfl (.tmp rfl .nil))) ?_)))))))
  cases hF
  exact Post.mk' ⟨rfl,rfl,rfl,rfl⟩ (h7.picks .nil) .nil
 refine RunL.caseb hF (λ e10 hF=>?_) (λ e10 hF=>?_)
 ·refine op (OpS.fbox (o3:=7) h1 .z PA.z Qoa rfl rfl rfl rfl ?_)
  obtain ⟨x4,e11,hF⟩:=Qa hF
  obtain ⟨e12,hF⟩:=Qr hF
  refine op (OpS.ibox h1 .z PA.a Tryz.underlying53 ty5 (Nat.eq_of_beq_eq_true e12) rfl rfl rfl rfl e11 ?_)
  refine op (OpS.loadBi h1 .z PA.a (Get.comp (Get.fld Event_.f7) (Get.arr e11)) ty5 rfl rfl rfl ?_)
  refine gb rfl (gk rfl (ga rfl ?_))
  obtain ⟨x5,e13,hF⟩:=Qh hF
  refine RunL.nameb e13 ?_
  refine nil (Run.slim [(1,u1),(19,.bool x5)] ⟨rfl,rfl,trivial⟩ ?_)
  exact hj1 (x5) _ _ ⟨rfl,(h1.facts (.atm (.s .z) .nil)).picks (.cons .z .nil)⟩ hF
 refine gp rfl (gp rfl (gp rfl (gp rfl (gk rfl (ga rfl (nil (Run.slim [(1,u1),(19,.bool false)] ⟨rfl,rfl,trivial⟩ ?_)))))))
 exact hj1 (false) _ _ ⟨rfl,(h1.facts (.atm (.s .z) .nil)).picks (.cons .z .nil)⟩ hF
theorem Qjw {fuel:Nat} {a0:Sensor_} {y:Int} (hF:Qex fuel a0=some y) {w:World} {v0:Value} :
  Spec Tryz.prog 93 [v0].toArray w [(false,.val Sensor_.rep v0 a0)] [] (λ v Γr Ωr Ωo=>v=.int .u16 y∧Γr=[]∧Ωr=[]∧Ωo=[]):=by
 refine Spec.of (L:=[(0,v0)]) Tryz.func93 rfl ⟨rfl,trivial⟩ rfl (λ e h=>?_)
 unfold Qex at hF
 refine sr (op (OpS.boxF h rfl rfl rfl (V.at .z) (λ u1 w1 h1=>?_)))
 refine ga rfl (nil (sr (op (OpS.fbox (o3:=23) h1 .z PA.z Qen rfl rfl rfl rfl ?_))))
 refine op (OpS.loadBi h1 .z PA.a (Get.fld Sensor_.f10) ty49 rfl rfl rfl ?_)
 refine op (OpS.fbox (o3:=14) h1 .z PA.z Qnm rfl rfl rfl rfl ?_)
 refine op (OpS.fbox (o3:=14) h1 .z PA.a Qnt rfl rfl rfl rfl ?_)
 refine op (OpS.loadBi h1 .z PA.a (Get.comp (Get.fld Sensor_.f7) (Get.fld Thresholds_.f0)) ty5 rfl rfl rfl ?_)
 refine op (OpS.conv Tryz.underlying5 Tryz.underlying49 rfl rfl rfl ?_)
 refine gb rfl (ga rfl ?_)
 obtain ⟨x1,e1,hF⟩:=Qh hF
 refine RunL.name e1 ?_
 refine nil (Run.retP rfl (.tmp rfl .nil) ?_)
 cases hF
 exact Post.mk' ⟨rfl,rfl,rfl,rfl⟩ (h1.picks .nil) .nil
end Lift
