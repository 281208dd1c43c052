import Derived.Test.YtahlmfpllhmjoaaGreatDoorTopLoggedWalksB
set_option linter.unusedVariables false
set_option linter.unusedSimpArgs false
namespace Lift
open Go Go.Proofs
open RunL (op sr nil gm ga gb gp gk dp du)
abbrev RqC1:Rep Filter_:=Rep.iso (λ s:Filter_=>(s.Window,s.Missing,())) (Rep.prod (Rep.raw (α:=List Int) (.slice none 0 0)) (Rep.prod (Rep.int .i64) Rep.unit))
abbrev GqC:Bool×Atom:=(false,.ptr (Rep.arr 6 (Rep.int .u8)) (.pointer (some ⟨0,0,none⟩)) ([0,2,4,7,9,11]))
set_option maxHeartbeats 8000000 in set_option maxRecDepth 20000 in
theorem Qms {fuel:Nat} {a0:Sensor_} {a1:Filter_} {a2:Int} {a3:Bool} {y:Filter_×Int} (hF:Qfh fuel a0 a1 a2 a3=some y) {w:World} {v0 v1:Value} :
  Spec Tryz.prog 151 [v0,v1,.int .u8 a2,.bool a3].toArray w [(false,.val Sensor_.rep v0 a0),(false,.val Filter_.rep v1 a1)] [] (λ v Γr Ωr Ωo=>∃ u0:Value,v=.tuple #[u0,.int .i64 y.2]∧Γr=[(true,.val Filter_.rep u0 y.1)]∧Ωr=[]∧Ωo=[]):=by
 refine Spec.of (L:=[(0,v0),(1,v1),(2,.int .u8 a2),(3,.bool a3)]) Tryz.func151 rfl ⟨rfl,rfl,rfl,rfl,trivial⟩ rfl (λ e h=>?_)
 unfold Qfh at hF
 refine sr (op (OpS.boxF h rfl rfl rfl (V.at .z) (λ u1 w1 h1=>?_)))
 refine op (OpS.boxF h1 rfl rfl rfl (V.at (.s .z)) (λ u2 w2 h2=>?_))
 refine op (OpS.alloc h2 ti188 Filter_.zr rfl rfl (λ u3 w3 h3=>?_))
 refine ga rfl (nil (Run.seq (sr (op (OpS.loadB h3 (.s (.s .z)) PA.z Get.id ty74 rfl rfl rfl (λ u4 h4=>?_))))))
 refine op (OpS.loadB h4 (.s .z) PA.z Get.id ty188 rfl rfl rfl (λ u5 h5=>?_))
 obtain ⟨y1,e1,hF⟩:=Qa hF
 refine op (OpS.callP h5 Tryz.func162 rfl rfl rfl rfl (vs:=[u4,u5]) rfl (Qik e1) (.cons (f:=false) (V.at (.s .z)) (.cons (f:=false) (V.at .z) .nil)) ?_)
 rintro _ w4 _ _ _ ⟨rfl,rfl,rfl,rfl⟩ h6
 have h7:=h6 rfl rfl
 simp only [ca,na] at h7
 refine op (OpS.not rfl rfl rfl ?_)
 refine nil ?_
 refine Run.ite rfl hF (λ e2 hF=>?_) (λ e2 hF=>?_)
 ·refine sr (op (OpS.build (f:=true) (x':=Filter_.z) h7 pl188 ti188 Filter_.zr rfl rfl rfl .nil (λ u6 h8=>?_)))
  refine op (OpS.storeB (f':=true) h8 .z PA.z Put.id ty188 rfl rfl rfl (V.at .z) (.inl rfl) (λ w5 h9=>?_))
  refine ga rfl (nil ?_)
  obtain ⟨u7,hu1,h10⟩:=Qaq h9 .z ty188
  refine Run.retP rfl (.cell rfl hu1 (.tmp rfl .nil)) ?_
  cases hF
  exact Post.mk' ⟨u7,rfl,rfl,rfl,rfl⟩ (h10.picks .nil) (.val (V.at .z) .nil)
 refine Run.skip (sr (op (OpS.fbox (o3:=0) h7 (.s .z) PA.z Qew rfl rfl rfl rfl ?_)))
 refine op (OpS.loadB h7 (.s .z) PA.a (Get.fld Filter_.f0) ty24 rfl rfl rfl (λ u8 h11=>?_))
 obtain ⟨y2,e3,hF⟩:=Qa hF
 refine op (OpS.callP h11 Tryz.func113 rfl rfl rfl rfl (vs:=[u8]) rfl (Qfp e3) (.cons (f:=false) (V.at .z) .nil) ?_)
 rintro u9 w6 _ _ _ ⟨_,rfl,rfl,rfl,rfl⟩ h12
 have h13:=h12 rfl rfl
 simp only [ca,na] at h13
 refine op (OpS.buildC (f:=true) (r:=Filter_.rep) (x:=Filter_.z) (r':=(Rep.iso (λ s:Filter_=>(s.Window,s.Missing,())) (Rep.prod (Rep.raw (α:=List Int) u9) (Rep.prod (Rep.int .i64) Rep.unit)))) (x':=(⟨[],0⟩:Filter_)) h13 pl188 ti188 Filter_.zr rfl rfl rfl (.cons (Rep.raw u9) Filter_.rep (Rep.iso (λ s:Filter_=>(s.Window,s.Missing,())) (Rep.prod (Rep.raw (α:=List Int) u9) (Rep.prod (Rep.int .i64) Rep.unit))) Filter_.z (⟨[],0⟩:Filter_) (Chg.iso _ (Chg.here (Chg.id (by rfl)))) rfl rfl (V.raw (f:=true) (St.own1 h13 .z) []) .nil) (λ u10 h14=>?_))
 have h15:=St.nil 5 (Rep.int .u8) h14
 refine op (OpS.alloc (r:=RqC1) h15 ti188 (Zr.iso (y:=Filter_.z) _ (Zr.of (Zr.prod (Zr.raw rfl ([]:List Int)) (Zr.prod (Zr.int .i64 0) Zr.unit)) (by rfl))) rfl rfl (λ u11 w7 h16=>?_))
 refine op (OpS.storeC (f':=true) (fr:=(Rep.iso (λ s:Filter_=>(s.Window,s.Missing,())) (Rep.prod (Rep.raw (α:=List Int) u9) (Rep.prod (Rep.int .i64) Rep.unit)))) (r':=(Rep.iso (λ s:Filter_=>(s.Window,s.Missing,())) (Rep.prod (Rep.raw (α:=List Int) u9) (Rep.prod (Rep.int .i64) Rep.unit)))) (x':=(⟨[],0⟩:Filter_)) h16 .z PA.z (Chg.id (by rfl)) (Ty.like ty188 (by rfl) (by rfl)) rfl rfl rfl (V.at .z) (.inl rfl) (λ w8 h17=>?_))
 refine nil (Run.seq (sr (gm rfl (nil ?_))))
 refine Run.ite rfl hF (λ e4 hF=>?_) (λ e4 hF=>?_)
 ·refine sr (op (OpS.fbox (o3:=0) h17 .z PA.z Qew rfl rfl rfl rfl ?_))
  refine op (OpS.loadR h17 .z PA.a (GetS.ok (GetS.iso _ (GetS.here GetS.id))) ty24 rfl rfl rfl rfl rfl ?_)
  refine gm rfl (op (OpS.lit (r:=(Rep.int .u8)) (f:=true) h17 Tryz.underlying24 ti5 rfl rfl rfl rfl rfl (.cons rfl V.int .nil) rfl rfl (λ u12 w9 h18=>?_)))
  obtain ⟨x1,e5,hF⟩:=Qa hF
  refine op (OpS.app (f':=true) h18 (.s (.s .z)) Tryz.underlying24 ti5 rfl rfl rfl rfl rfl rfl rfl (V.at .z) (.inr Pure.int) e5 (λ u13 w10 h19=>?_))
  refine op (OpS.fbox (o3:=0) h19 (.s .z) PA.z Qew rfl rfl rfl rfl ?_)
  refine op (OpS.storeC (f':=true) (fr:=(Rep.raw u13)) (r':=(Rep.iso (λ s:Filter_=>(s.Window,s.Missing,())) (Rep.prod (Rep.raw (α:=List Int) u13) (Rep.prod (Rep.int .i64) Rep.unit)))) (x':=(⟨[],0⟩:Filter_)) h19 (.s .z) PA.a (Chg.iso _ (Chg.here (Chg.id (by rfl)))) (Ty.like ty24 (by rfl) (by rfl)) rfl rfl rfl (V.raw (f:=true) (St.own1 h19 .z) ([])) (.inl rfl) (λ w11 h20=>?_))
  refine nil (Run.seq (sr (op (OpS.fbox (o3:=0) h20 .z PA.z Qew rfl rfl rfl rfl ?_))))
  refine op (OpS.loadR h20 .z PA.a (GetS.ok (GetS.iso _ (GetS.here GetS.id))) ty24 rfl rfl rfl rfl rfl ?_)
  refine op (OpS.lenO h20 (.s .z) Tryz.underlying24 rfl rfl rfl ?_)
  refine op (OpS.fbox (o3:=27) h20 (.s (.s (.s (.s (.s .z))))) PA.z Qga rfl rfl rfl rfl ?_)
  refine op (OpS.loadBi h20 (.s (.s (.s (.s (.s .z))))) PA.a (Get.fld Sensor_.f14) ty3 rfl rfl rfl ?_)
  refine gb rfl (nil ?_)
  refine Run.join (σ:=Filter_) (λ s_ L_ w_=>L_=[(8,u3),(10,u11)]∧St e w_ [] [(true,.box 188 Filter_.rep u3 Filter_.z),(true,.box 188 Filter_.rep u11 s_)]) hF (λ s1 _ w12 hI hF=>?_) (λ j1 hj1 hF=>?_)
  ·obtain ⟨rfl,h21⟩:=hI
   refine sr (op (OpS.loadB h21 (.s .z) PA.z Get.id ty188 rfl rfl rfl (λ u14 h22=>?_)))
   refine op (OpS.storeB (f':=true) h22 .z PA.z Put.id ty188 rfl rfl rfl (V.at .z) (.inl rfl) (λ w13 h23=>?_))
   refine ga rfl (nil ?_)
   obtain ⟨u15,hu2,h24⟩:=Qaq h23 .z ty188
   refine Run.retP rfl (.cell rfl hu2 (.tmp rfl .nil)) ?_
   cases hF
   exact Post.mk' ⟨u15,rfl,rfl,rfl,rfl⟩ (h24.picks .nil) (.val (V.at .z) .nil)
  refine Run.ite rfl hF (λ e6 hF=>?_) (λ e6 hF=>?_)
  ·refine Run.reg (op (OpS.fbox (o3:=0) h20 .z PA.z Qew rfl rfl rfl rfl ?_))
   refine op (OpS.loadR h20 .z PA.a (GetS.ok (GetS.iso _ (GetS.here GetS.id))) ty24 rfl rfl rfl rfl rfl ?_)
   have h25:=(h20.pick (.s .z)).freeze
   have h26:=h25.pick .z
   have h27:=St.boxJ (r':=Filter_.rep) (x':=(⟨x1,0⟩:Filter_)) h26 (λ _ _ hs_=>(Jn.iso _ (Jn.prod (Jn.raw ((V.at .z) _ _ hs_) rfl) Jn.refl)))
   obtain ⟨x2,e7,hF⟩:=Qa hF
   refine op (OpS.sub h27 Tryz.underlying24 ty5 rfl rfl rfl rfl rfl (V.at .z) e7 (λ u16 h28=>?_))
   refine op (OpS.fbox (o3:=0) h28 .z PA.z Qew rfl rfl rfl rfl ?_)
   refine op (OpS.storeB (f':=true) h28 .z PA.a (Put.fld Filter_.f0) ty24 rfl rfl rfl (V.at .z) (.inl rfl) (λ w14 h29=>?_))
   refine nil (Run.slim [(10,u11),(8,u3)] ⟨rfl,rfl,trivial⟩ ?_)
   refine Run.slim [(8,u3),(10,u11)] ⟨rfl,rfl,trivial⟩ ?_
   exact hj1 ((⟨x2,0⟩:Filter_)) _ _ ⟨rfl,(h29.facts .nil).picks (.cons (.s (.s .z)) (.cons .z .nil))⟩ hF
  refine Run.skip ?_
  have h30:=(h20.pick (.s .z)).freeze
  have h31:=h30.pick .z
  have h32:=St.boxJ (r':=Filter_.rep) (x':=(⟨x1,0⟩:Filter_)) h31 (λ _ _ hs_=>(Jn.iso _ (Jn.prod (Jn.raw ((V.at .z) _ _ hs_) rfl) Jn.refl)))
  refine Run.slim [(8,u3),(10,u11)] ⟨rfl,rfl,trivial⟩ ?_
  exact hj1 ((⟨x1,0⟩:Filter_)) _ _ ⟨rfl,(h32.facts .nil).picks (.cons (.s (.s .z)) (.cons .z .nil))⟩ hF
 refine Run.skip (sr (op (OpS.fbox (o3:=1) h17 (.s (.s (.s (.s .z)))) PA.z Qix rfl rfl rfl rfl ?_)))
 refine op (OpS.loadBi h17 (.s (.s (.s (.s .z)))) PA.a (Get.fld Filter_.f1) ty3 rfl rfl rfl ?_)
 refine gb rfl (op (OpS.mini rfl rfl rfl rfl ?_))
 refine op (OpS.fbox (o3:=1) h17 .z PA.z Qix rfl rfl rfl rfl ?_)
 refine op (OpS.storeC (f':=true) (fr:=(Rep.int .i64)) (r':=(Rep.iso (λ s:Filter_=>(s.Window,s.Missing,())) (Rep.prod (Rep.raw (α:=List Int) u9) (Rep.prod (Rep.int .i64) Rep.unit)))) (x':=(⟨[],(min (IntKind.i64.wrap (a1.Missing+1)) 3)⟩:Filter_)) h17 .z PA.a (Chg.iso _ (Chg.there (Chg.here (Chg.id (by rfl))))) ty3 rfl rfl rfl V.int (.inl rfl) (λ w15 h33=>?_))
 refine nil (Run.seq (sr (op (OpS.fbox (o3:=1) h33 .z PA.z Qix rfl rfl rfl rfl ?_))))
 refine op (OpS.loadBi h33 .z PA.a (GetS.ok (GetS.iso _ (GetS.there (GetS.here GetS.id)))) ty3 rfl rfl rfl ?_)
 refine gb rfl (nil ?_)
 refine Run.ite rfl hF (λ e8 hF=>?_) (λ e8 hF=>?_)
 ·refine Run.reg (op (OpS.fbox (o3:=0) h33 .z PA.z Qew rfl rfl rfl rfl ?_))
  have h34:=St.nil 5 (Rep.int .u8) h33
  refine op (OpS.storeC (f':=true) (fr:=(Rep.raw (.slice none 0 0))) (r':=RqC1) (x':=(⟨[],(min (IntKind.i64.wrap (a1.Missing+1)) 3)⟩:Filter_)) h34 (.s .z) PA.a (Chg.iso _ (Chg.here (Chg.id (by rfl)))) (Ty.like ty24 (by rfl) (by rfl)) rfl rfl rfl (V.raw (f:=true) (St.own1 h34 .z) ([])) (.inl rfl) (λ w16 h35=>?_))
  refine nil (sr (op (OpS.loadB (fr:=RqC1) h35 .z PA.z (GetS.ok GetS.id) (Ty.like ty188 (by rfl) (by rfl)) rfl rfl rfl (λ u17 h36=>?_))))
  refine op (OpS.storeC (f':=true) (fr:=RqC1) (r':=RqC1) (x':=(⟨[],(min (IntKind.i64.wrap (a1.Missing+1)) 3)⟩:Filter_)) h36 (.s (.s (.s (.s .z)))) PA.z (Chg.id (by rfl)) (Ty.like ty188 (by rfl) (by rfl)) rfl rfl rfl (V.at .z) (.inl rfl) (λ w17 h37=>?_))
  refine ga rfl (nil ?_)
  obtain ⟨u18,hu3,h38⟩:=Qaq h37 .z (Ty.like ty188 (by rfl) (by rfl))
  have h39:=(h38.pick (.s (.s .z))).freeze
  have h40:=h39.pick .z
  have h41:=St.boxJ (r':=Filter_.rep) (x':=(⟨[],(min (IntKind.i64.wrap (a1.Missing+1)) 3)⟩:Filter_)) h40 (λ _ _ hs_=>(Jn.iso _ (Jn.prod (Jn.raw ((V.at .z) _ _ hs_) rfl) Jn.refl)))
  have h42:=h41.pick (.s .z)
  have h43:=St.boxJ (r':=Filter_.rep) (x':=(⟨[],(min (IntKind.i64.wrap (a1.Missing+1)) 3)⟩:Filter_)) h42 (λ _ _ hs_=>(Jn.iso _ (Jn.prod (Jn.raw ((V.at .z) _ _ hs_) rfl) Jn.refl)))
  have h44:=St.addV (f:=true) (r:=Filter_.rep) (x:=(⟨[],(min (IntKind.i64.wrap (a1.Missing+1)) 3)⟩:Filter_)) h43 (V.jn (r:=RqC1) (x:=(⟨[],(min (IntKind.i64.wrap (a1.Missing+1)) 3)⟩:Filter_)) (V.at (.s .z)) rfl (λ _ _ hs_=>(Jn.iso _ (Jn.prod (Jn.raw ((V.at .z) _ _ hs_) rfl) Jn.refl))))
  refine Run.retP rfl (.cell rfl hu3 (.tmp rfl .nil)) ?_
  cases hF
  exact Post.mk' ⟨u18,rfl,rfl,rfl,rfl⟩ (h44.picks .nil) (.val (V.at .z) .nil)
 refine Run.skip (sr (op (OpS.loadB (fr:=(Rep.iso (λ s:Filter_=>(s.Window,s.Missing,())) (Rep.prod (Rep.raw (α:=List Int) u9) (Rep.prod (Rep.int .i64) Rep.unit)))) h33 .z PA.z (GetS.ok GetS.id) (Ty.like ty188 (by rfl) (by rfl)) rfl rfl rfl (λ u19 h45=>?_))))
 refine op (OpS.storeC (f':=true) (fr:=(Rep.iso (λ s:Filter_=>(s.Window,s.Missing,())) (Rep.prod (Rep.raw (α:=List Int) u9) (Rep.prod (Rep.int .i64) Rep.unit)))) (r':=(Rep.iso (λ s:Filter_=>(s.Window,s.Missing,())) (Rep.prod (Rep.raw (α:=List Int) u9) (Rep.prod (Rep.int .i64) Rep.unit)))) (x':=(⟨[],(min (IntKind.i64.wrap (a1.Missing+1)) 3)⟩:Filter_)) h45 (.s (.s (.s .z))) PA.z (Chg.id (by rfl)) (Ty.like ty188 (by rfl) (by rfl)) rfl rfl rfl (V.at .z) (.inl rfl) (λ w18 h46=>?_))
 refine ga rfl (nil ?_)
 obtain ⟨u20,hu4,h47⟩:=Qaq h46 .z (Ty.like ty188 (by rfl) (by rfl))
 have h48:=(h47.pick (.s (.s (.s .z)))).freeze
 have h49:=h48.pick .z
 have h50:=St.boxJ (r':=Filter_.rep) (x':=(⟨y2,(min (IntKind.i64.wrap (a1.Missing+1)) 3)⟩:Filter_)) h49 (λ _ _ hs_=>(Jn.iso _ (Jn.prod (Jn.raw ((V.at .z) _ _ hs_) rfl) Jn.refl)))
 have h51:=h50.pick (.s .z)
 have h52:=St.boxJ (r':=Filter_.rep) (x':=(⟨y2,(min (IntKind.i64.wrap (a1.Missing+1)) 3)⟩:Filter_)) h51 (λ _ _ hs_=>(Jn.iso _ (Jn.prod (Jn.raw ((V.at .z) _ _ hs_) rfl) Jn.refl)))
 have h53:=St.addV (f:=true) (r:=Filter_.rep) (x:=(⟨y2,(min (IntKind.i64.wrap (a1.Missing+1)) 3)⟩:Filter_)) h52 (V.jn (r:=(Rep.iso (λ s:Filter_=>(s.Window,s.Missing,())) (Rep.prod (Rep.raw (α:=List Int) u9) (Rep.prod (Rep.int .i64) Rep.unit)))) (x:=(⟨[],(min (IntKind.i64.wrap (a1.Missing+1)) 3)⟩:Filter_)) (V.at (.s .z)) rfl (λ _ _ hs_=>(Jn.iso _ (Jn.prod (Jn.raw ((V.at .z) _ _ hs_) rfl) Jn.refl))))
 refine Run.retP rfl (.cell rfl hu4 (.tmp rfl .nil)) ?_
 cases hF
 exact Post.mk' ⟨u20,rfl,rfl,rfl,rfl⟩ (h53.picks .nil) (.val (V.at .z) .nil)
theorem Qhq {fuel:Nat} {a0:List Int} {y:((List Int))} (hF:Qdh fuel a0=some y) {w:World} {v0:Value} :
  Spec Tryz.prog 164 [v0].toArray w [(false,.val (Rep.slice (Rep.int .u8)) v0 a0)] [] (λ v Γr Ωr Ωo=>∃ u0_0:Value,v=.func (.func 215) #[] #[u0_0]∧Γr=[]∧Ωr=[(false,.box 24 (Rep.slice (Rep.int .u8)) u0_0 y)]∧Ωo=[]):=by
 refine Spec.of (L:=[(0,v0)]) Tryz.func164 rfl ⟨rfl,trivial⟩ rfl (λ e h=>?_)
 unfold Qdh at hF
 refine sr (op (OpS.boxF h rfl rfl rfl (V.at .z) (λ u1 w1 h1=>?_)))
 refine ga rfl (nil (sr (op (OpS.mkf (fl:=[]) (cl:=[u1]) rfl rfl rfl rfl ?_))))
 refine ga rfl (nil (Run.retP rfl (.tmp rfl .nil) ?_))
 cases hF
 exact Post.mk' ⟨u1,rfl,rfl,rfl,rfl⟩ (h1.picks (.cons .z .nil)) .nil
theorem Qlz {fuel:Nat} {a0:Int} {a1:Int} {y:Int} (hF:Qef fuel a0 a1=some y) {w:World} :
  Spec Tryz.prog 166 [.int .i64 a0,.int .i64 a1].toArray w [] [] (λ v Γr Ωr Ωo=>v=.int .i64 y∧Γr=[]∧Ωr=[]∧Ωo=[]):=by
 refine Spec.of (L:=[(0,.int .i64 a0),(1,.int .i64 a1)]) Tryz.func166 rfl ⟨rfl,rfl,trivial⟩ rfl (λ e h=>?_)
 unfold Qef at hF
 refine sr (ga rfl (nil (sr (gm rfl ?_))))
 obtain ⟨y1,e1,hF⟩:=Qa hF
 refine op (OpS.callP h Tryz.func216 rfl rfl rfl rfl (vs:=[.int .i64 a0]) rfl (Qfd e1) .nil ?_)
 rintro _ w1 _ _ _ ⟨rfl,rfl,rfl,rfl⟩ h1
 have h2:=h1 rfl rfl
 simp only [ca,na] at h2
 refine ga rfl (nil (sr (gm rfl ?_)))
 obtain ⟨y2,e2,hF⟩:=Qa hF
 refine op (OpS.callP h2 Tryz.func216 rfl rfl rfl rfl (vs:=[.int .i64 a1]) rfl (Qfd e2) .nil ?_)
 rintro _ w2 _ _ _ ⟨rfl,rfl,rfl,rfl⟩ h3
 have h4:=h3 rfl rfl
 simp only [ca,na] at h4
 refine ga rfl (nil (Run.seq (sr (gm rfl (nil ?_)))))
 refine Run.ite rfl hF (λ e3 hF=>?_) (λ e3 hF=>?_)
 ·refine Run.seq (sr (gm rfl (nil ?_)))
  refine Run.ite rfl hF (λ e4 hF=>?_) (λ e4 hF=>?_)
  ·refine sr (ga rfl (nil (Run.retP rfl (.tmp rfl .nil) ?_)))
   cases hF
   exact Post.mk' ⟨rfl,rfl,rfl,rfl⟩ (h4.picks .nil) .nil
  refine Run.skip (sr (ga rfl (nil (Run.retP rfl (.tmp rfl .nil) ?_))))
  cases hF
  exact Post.mk' ⟨rfl,rfl,rfl,rfl⟩ (h4.picks .nil) .nil
 refine Run.skip (Run.seq (sr (gm rfl (nil ?_))))
 refine Run.ite rfl hF (λ e5 hF=>?_) (λ e5 hF=>?_)
 ·refine sr (ga rfl (nil (Run.retP rfl (.tmp rfl .nil) ?_)))
  cases hF
  exact Post.mk' ⟨rfl,rfl,rfl,rfl⟩ (h4.picks .nil) .nil
 refine Run.skip (Run.seq (sr (gm rfl (gm rfl (gb rfl (nil ?_))))))
 refine Run.ite rfl hF (λ e6 hF=>?_) (λ e6 hF=>?_)
 ·refine sr (ga rfl (nil (Run.retP rfl (.tmp rfl .nil) ?_)))
  cases hF
  exact Post.mk' ⟨rfl,rfl,rfl,rfl⟩ (h4.picks .nil) .nil
 refine Run.skip (Run.seq (sr (gm rfl (gm rfl (gb rfl (nil ?_))))))
 refine Run.ite rfl hF (λ e7 hF=>?_) (λ e7 hF=>?_)
 ·refine sr (ga rfl (nil (Run.retP rfl (.tmp rfl .nil) ?_)))
  cases hF
  exact Post.mk' ⟨rfl,rfl,rfl,rfl⟩ (h4.picks .nil) .nil
 refine Run.skip (sr (ga rfl (nil (Run.retP rfl (.tmp rfl .nil) ?_))))
 cases hF
 exact Post.mk' ⟨rfl,rfl,rfl,rfl⟩ (h4.picks .nil) .nil
set_option maxRecDepth 20000 in
theorem Qra {fuel:Nat} {a0:Int} {y:Int} (hF:Qkr fuel a0=some y) {w:World} :
  Spec Tryz.prog 262 [.int .u64 a0].toArray w [] [] (λ v Γr Ωr Ωo=>v=.int .i64 y∧Γr=[]∧Ωr=[]∧Ωo=[]):=by
 refine Spec.of (L:=[(0,.int .u64 a0)]) Tryz.func262 rfl ⟨rfl,trivial⟩ rfl (λ e h=>?_)
 unfold Qkr at hF
 refine sr (ga rfl (nil (Run.seq (sr (gm rfl (gb rfl (nil ?_)))))))
 refine Run.join (σ:=(Int×Int)) (λ s_ L_ w_=>L_=[(0,.int .u64 s_.1),(2,.int .i64 s_.2)]∧St e w_ [] []) hF (λ s1 _ w1 hI hF=>?_) (λ j1 hj1 hF=>?_)
 ·obtain ⟨rfl,h1⟩:=hI
  refine Run.seq (sr (gm rfl (gb rfl (nil ?_))))
  refine Run.join (σ:=(Int×Int)) (λ s_ L_ w_=>L_=[(0,.int .u64 s_.1),(2,.int .i64 s_.2)]∧St e w_ [] []) hF (λ s2 _ w2 hI hF=>?_) (λ j2 hj2 hF=>?_)
  ·obtain ⟨rfl,h2⟩:=hI
   refine Run.seq (sr (gm rfl (gb rfl (nil ?_))))
   refine Run.ite rfl hF (λ e1 hF=>?_) (λ e1 hF=>?_)
   ·refine sr (gm rfl (op (OpS.shr rfl rfl rfl rfl (by decide) ?_)))
    refine ga rfl (nil (Run.reg (gm rfl (gb rfl (ga rfl ?_)))))
    obtain ⟨x1,e2,hF⟩:=Qh hF
    refine RunL.name e2 ?_
    refine nil (sr (gm rfl (gm rfl (op (OpS.conv Tryz.underlying328 Tryz.underlying5 rfl rfl rfl ?_)))))
    obtain ⟨x2,e3,hF⟩:=Qa hF
    refine op (OpS.selem h2 Tryz.underlying9 rfl rfl rfl rfl (V.str (f:=true)) e3 ?_)
    refine op (OpS.conv Tryz.underlying5 Tryz.underlying3 rfl rfl rfl ?_)
    refine gb rfl (ga rfl ?_)
    obtain ⟨x3,e4,hF⟩:=Qh hF
    refine RunL.name e4 ?_
    refine nil (Run.retP rfl (.tmp rfl .nil) ?_)
    cases hF
    exact Post.mk' ⟨rfl,rfl,rfl,rfl⟩ (h2.picks .nil) .nil
   refine Run.skip (sr (gm rfl (gm rfl (op (OpS.conv Tryz.underlying328 Tryz.underlying5 rfl rfl rfl ?_)))))
   obtain ⟨x4,e5,hF⟩:=Qa hF
   refine op (OpS.selem h2 Tryz.underlying9 rfl rfl rfl rfl (V.str (f:=true)) e5 ?_)
   refine op (OpS.conv Tryz.underlying5 Tryz.underlying3 rfl rfl rfl ?_)
   refine gb rfl (ga rfl ?_)
   obtain ⟨x5,e6,hF⟩:=Qh hF
   refine RunL.name e6 ?_
   refine nil (Run.retP rfl (.tmp rfl .nil) ?_)
   cases hF
   exact Post.mk' ⟨rfl,rfl,rfl,rfl⟩ (h2.picks .nil) .nil
  refine Run.ite rfl hF (λ e7 hF=>?_) (λ e7 hF=>?_)
  ·refine sr (gm rfl (op (OpS.shr rfl rfl rfl rfl (by decide) ?_)))
   refine ga rfl (nil (Run.reg (gm rfl (gb rfl (ga rfl ?_)))))
   obtain ⟨x6,e8,hF⟩:=Qh hF
   refine RunL.name e8 ?_
   refine nil (Run.slim [(0,.int .u64 (bShr .u64 s1.1 16)),(2,.int .i64 x6)] ⟨rfl,rfl,trivial⟩ ?_)
   exact hj2 ((bShr .u64 s1.1 16),x6) _ _ ⟨rfl,(h1.facts .nil).picks .nil⟩ hF
  refine Run.skip (Run.slim [(0,.int .u64 s1.1),(2,.int .i64 s1.2)] ⟨rfl,rfl,trivial⟩ ?_)
  exact hj2 (s1.1,s1.2) _ _ ⟨rfl,(h1.facts .nil).picks .nil⟩ hF
 refine Run.ite rfl hF (λ e9 hF=>?_) (λ e9 hF=>?_)
 ·refine sr (gm rfl (op (OpS.shr rfl rfl rfl rfl (by decide) ?_)))
  refine ga rfl (nil (Run.reg (ga rfl (nil (Run.slim [(0,.int .u64 (bShr .u64 a0 32)),(2,.int .i64 32)] ⟨rfl,rfl,trivial⟩ ?_)))))
  exact hj1 ((bShr .u64 a0 32),32) _ _ ⟨rfl,(h.facts .nil).picks .nil⟩ hF
 refine Run.skip (Run.slim [(0,.int .u64 a0),(2,.int .i64 0)] ⟨rfl,rfl,trivial⟩ ?_)
 exact hj1 (a0,0) _ _ ⟨rfl,(h.facts .nil).picks .nil⟩ hF
theorem Qso {fuel:Nat} {a0:Int} {y:Int} (hF:Qkq fuel a0=some y) {w:World} :
  Spec Tryz.prog 246 [.int .u64 a0].toArray w [] [] (λ v Γr Ωr Ωo=>v=.int .i64 y∧Γr=[]∧Ωr=[]∧Ωo=[]):=by
 refine Spec.of (L:=[(0,.int .u64 a0)]) Tryz.func246 rfl ⟨rfl,trivial⟩ rfl (λ e h=>?_)
 unfold Qkq at hF
 refine sr (ga rfl (nil (Run.seq (Run.condF rfl ?_))))
 refine Run.skip (sr (gm rfl ?_))
 obtain ⟨y1,e1,hF⟩:=Qa hF
 refine op (OpS.callP h Tryz.func262 rfl rfl rfl rfl (vs:=[.int .u64 a0]) rfl (Qra e1) .nil ?_)
 rintro _ w1 _ _ _ ⟨rfl,rfl,rfl,rfl⟩ h1
 have h2:=h1 rfl rfl
 simp only [ca,na] at h2
 refine ga rfl (nil (Run.retP rfl (.tmp rfl .nil) ?_))
 cases hF
 exact Post.mk' ⟨rfl,rfl,rfl,rfl⟩ (h2.picks .nil) .nil
theorem Qgo {σ:Type} {fuel:Nat} {bd_:σ→Int→Option σ} {s_:σ} {a1:List Int} {y:σ} (hF:Qaz fuel bd_ s_ a1=some y) {w:World} {v1:Value} {l_:Nat} {I_:σ→HAtom} (hY_:YieldOK Tryz.prog l_ (Rep.int .u8) I_ bd_) :
  Spec Tryz.prog 215 [.func (.yield l_) #[] #[],v1].toArray w [(false,.ptr (Rep.slice (Rep.int .u8)) v1 a1)] [(false,I_ s_)] (λ v Γr Ωr Ωo=>v=.tuple #[]∧Γr=[]∧Ωr=[]∧Ωo=[(false,I_ y)]):=by
 refine Spec.of (L:=[(0,.func (.yield l_) #[] #[]),(1,v1)]) Tryz.func215 rfl ⟨rfl,rfl,trivial⟩ rfl (λ e h=>?_)
 unfold Qaz at hF
 refine sr (op (OpS.load h ty24 rfl rfl rfl .z (λ u1 h1=>?_)))
 refine op (OpS.len h1 Tryz.underlying24 rfl rfl rfl (V.at .z) ?_)
 refine gm rfl (nil (Run.block (Run.slim [(0,.func (.yield l_) #[] #[]),(5,u1),(6,.int .i64 (a1.length:Int)),(7,.int .i64 0)] ⟨rfl,rfl,rfl,rfl,trivial⟩ ?_)))
 refine Run.loopP (σ:=(Int×σ)) (λ s_ L_ w_=>L_=[(0,.func (.yield l_) #[] #[]),(5,u1),(6,.int .i64 (a1.length:Int)),(7,.int .i64 s_.1)]∧St e w_ [(false,.val (Rep.slice (Rep.int .u8)) u1 a1)] [(false,I_ s_.2)]) hF ⟨rfl,(h1.facts (.atm .z .nil)).picks (.cons .z .nil)⟩ (λ k1 hk1 s1 _ w1 hI hF=>?_)
 obtain ⟨rfl,h2⟩:=hI
 refine sr (gb rfl (nil (Run.seq ?_)))
 refine Run.ite rfl hF (λ e1 hF=>?_) (λ e1 hF=>?_)
 ·refine Run.skip (Run.seq (Run.block (sr ?_)))
  obtain ⟨x1,e2,hF⟩:=Qa hF
  refine op (OpS.iptr h2 Tryz.underlying24 ty5 rfl rfl rfl rfl (V.at .z) e2 (λ u2 h3=>?_))
  refine op (OpS.loadi h3 ty5 rfl rfl rfl .z ?_)
  refine ga rfl (nil (sr (gm rfl (gm rfl ?_))))
  obtain ⟨y1,e3,hF⟩:=Qa hF
  refine op (OpS.yield (f:=true) h3 .z hY_ e3 rfl rfl rfl rfl V.int (λ w2 h4=>?_))
  refine op (OpS.not rfl rfl rfl ?_)
  refine nil (Run.condF rfl ?_)
  refine Run.skip (Run.endBlock (Run.reg (gb rfl (gm rfl (nil (Run.slim [(0,.func (.yield l_) #[] #[]),(5,u1),(6,.int .i64 (a1.length:Int)),(7,.int .i64 (IntKind.i64.wrap (s1.1+1)))] ⟨rfl,rfl,rfl,rfl,trivial⟩ ?_))))))
  exact hk1 ((IntKind.i64.wrap (s1.1+1)),y1) _ _ ⟨rfl,(h4.facts (.atm (.s .z) .nil)).picks (.cons .z .nil)⟩ hF
 refine Run.exit rfl ?_
 refine Run.finP rfl .nil ?_
 cases hF
 exact Post.mk' ⟨rfl,rfl,rfl,rfl⟩ (h2.picks (.cons .z .nil)) .nil
theorem Qcm {fuel:Nat} {a1_0:List Int} {y:(List Int)} (hF:Qy fuel a1_0=some y) {w:World} {v1_0:Value} :
  Spec Tryz.prog 244 [.slice none 0 0,.func (.func 215) #[] #[v1_0]].toArray w [(false,.ptr (Rep.slice (Rep.int .u8)) v1_0 a1_0)] [] (λ v Γr Ωr Ωo=>∃ u0:Value,v=u0∧Γr=[]∧Ωr=[(false,(.slice 5 (Rep.int .u8) u0 y))]∧Ωo=[]):=by
 refine Spec.of (L:=[(0,.slice none 0 0),(1,.func (.func 215) #[] #[v1_0])]) Tryz.func244 rfl ⟨rfl,rfl,trivial⟩ rfl (λ e h=>?_)
 unfold Qy at hF
 refine sr ?_
 have h1:=St.nil 5 (Rep.int .u8) h
 refine op (OpS.box (f':=true) (r:=(Rep.raw (α:=List Int) (.slice none 0 0))) (x:=[]) h1 rfl rfl rfl (V.raw (f:=true) (St.own1 h1 .z) []) (λ u1 w1 h2=>?_))
 refine ga rfl (nil (Run.seq (sr (gm rfl (nil (Run.block ?_))))))
 have h3:=(h2.pick .z).weak
 have h4:=(h3.pick (.s .z)).weak
 refine Run.slim [(6,.func (.func 215) #[] #[v1_0]),(2,u1)] ⟨rfl,rfl,trivial⟩ ?_
 obtain ⟨y1,e1,hF⟩:=Qa hF
 refine Run.rangeC (σ:=((List Int))) (r:=(Rep.int .u8)) (λ s_ Γ_ Ω_=>∃ u0_:Value,Γ_=[]∧Ω_=[(false,.box 24 (Rep.raw (α:=List Int) u0_) u1 ([])),(false,.slice 5 (Rep.int .u8) u0_ s_)]) (by rintro _ _ _ ⟨u0_,rfl,rfl⟩;exact ⟨rfl,rfl⟩) rfl rfl rfl Tryz.func215 rfl rfl rfl (λ l_ I_ hY_ w_=>Qgo e1 hY_) (.ptr .z .nil) (Ω0:=[(false,.box 24 (Rep.raw (α:=List Int) (.slice none 0 0)) u1 ([])),(false,.slice 5 (Rep.int .u8) (.slice none 0 0) ([]))]) (Ω:=[]) (Γ0:=[]) (h4.picks (.cons (.s .z) (.cons .z .nil))) ⟨(.slice none 0 0),rfl,rfl⟩ .nil ?_ ?_
 ·intro l_ q_ e w s1 s1_ x1 v1 Γ_ Ω_ hq_ hX_ hF h5
  obtain ⟨u2,rfl,rfl⟩:=hX_
  refine Run.reg (ga rfl (nil (Run.beginRound rfl (h5.pick .z) hq_ (λ w2 h6=>?_))))
  refine Run.block (Run.reg (op (OpS.loadR h6 (.s .z) PA.z (GetS.ok GetS.id) ty24 rfl rfl rfl rfl rfl ?_)))
  refine gm rfl (op (OpS.lit (r:=(Rep.int .u8)) (f:=false) h6 Tryz.underlying24 ti5 rfl rfl rfl rfl rfl (.cons rfl (V.at .z) .nil) rfl rfl (λ u3 w3 h7=>?_)))
  obtain ⟨x2,e2,hF⟩:=Qa hF
  refine op (OpS.app (f':=false) h7 (.s (.s .z)) Tryz.underlying24 ti5 rfl rfl rfl rfl rfl rfl rfl (V.at .z) (.inr Pure.int) e2 (λ u4 w4 h8=>?_))
  refine op (OpS.storeC (f':=false) (fr:=(Rep.raw u4)) (r':=(Rep.raw (α:=List Int) u4)) (x':=[]) h8 (.s (.s .z)) PA.z (Chg.id (by rfl)) (Ty.like ty24 (by rfl) (by rfl)) rfl rfl rfl (V.raw (f:=false) (St.own1 h8 .z) ([])) (.inr rfl) (λ w5 h9=>?_))
  refine nil (Run.endBlock (Run.finR rfl ?_))
  cases hF
  exact ⟨_,_,⟨u4,rfl,rfl⟩,(h9.facts .nil).picks (.cons (.s (.s .z)) (.cons .z (.cons .z .nil)))⟩
 intro D_ w Γ_ Ω_ hX_ h10
 obtain ⟨u5,rfl,rfl⟩:=hX_
 simp only [ca,na] at h10
 refine Run.slim [(2,u1)] ⟨rfl,trivial⟩ ?_
 refine Run.endBlock (sr (op (OpS.loadR h10 .z PA.z (GetS.ok GetS.id) ty24 rfl rfl rfl rfl rfl ?_)))
 refine ga rfl (nil (Run.retPD h10 (.s (.s .z)) rfl (λ w6 h11=>?_)))
 refine ⟨_,(.tmp rfl .nil),?_⟩
 cases hF
 exact Post.mk' ⟨u5,rfl,rfl,rfl,rfl⟩ (h11.picks (.cons (.s .z) .nil)) .nil
theorem Qdf {fuel:Nat} {a0_0:List Int} {y:(List Int)} (hF:Qx fuel a0_0=some y) {w:World} {v0_0:Value} :
  Spec Tryz.prog 213 [.func (.func 215) #[] #[v0_0]].toArray w [(false,.ptr (Rep.slice (Rep.int .u8)) v0_0 a0_0)] [] (λ v Γr Ωr Ωo=>∃ u0:Value,v=u0∧Γr=[]∧Ωr=[(false,(.slice 5 (Rep.int .u8) u0 y))]∧Ωo=[]):=by
 refine Spec.of (L:=[(0,.func (.func 215) #[] #[v0_0])]) Tryz.func213 rfl ⟨rfl,trivial⟩ rfl (λ e h=>?_)
 unfold Qx at hF
 refine sr (ga rfl (nil (sr (gm rfl ?_))))
 obtain ⟨y1,e1,hF⟩:=Qa hF
 have h1:=h.front .nil
 refine op (OpS.callO h1 Tryz.func244 rfl rfl rfl rfl (vs:=[.slice none 0 0,.func (.func 215) #[] #[v0_0]]) rfl (Qcm e1) rfl (.ptr .z .nil) ?_)
 rintro u1 w1 _ _ _ ⟨_,rfl,rfl,rfl,rfl⟩ h2
 have h3:=h2
 simp only [ca,na] at h3
 refine ga rfl (nil (Run.retP rfl (.tmp rfl .nil) ?_))
 cases hF
 exact Post.mk' ⟨u1,rfl,rfl,rfl,rfl⟩ (h3.picks (.cons .z .nil)) .nil
set_option maxRecDepth 20000 in
theorem Qjo {fuel:Nat} {a0:Int} {a1:Int} {a2:Sensor_} {y:Int} (hF:Qcf fuel a0 a1 a2=some y) {w:World} {v2:Value} :
  Spec Tryz.prog 165 [.int .u8 a0,.int .u8 a1,v2].toArray w [(false,.ptr Sensor_.rep v2 a2)] [] (λ v Γr Ωr Ωo=>v=.int .i64 y∧Γr=[]∧Ωr=[]∧Ωo=[]):=by
 refine Spec.of (L:=[(0,.int .u8 a0),(1,.int .u8 a1),(2,v2)]) Tryz.func165 rfl ⟨rfl,rfl,rfl,trivial⟩ rfl (λ e h=>?_)
 unfold Qcf at hF
 refine sr (ga rfl (nil (Run.seq ?_)))
 obtain ⟨y1,e1,hF⟩:=Qa hF
 refine Run.drawV (Ωs:=[]) [.f 6 (λ u_=>[(false,.ptr Conversion_.rep u_ a2.Conversion)]),.f 7 (λ u_=>[(false,.ptr Rep.bool u_ a2.Conversion.Signed)]),.k 8 (.bool a2.Conversion.Signed),.k 9 (.int .u8 a0),.k 10 (.int .i64 y1),.f 11 (λ u_=>[(false,.ptr Conversion_.rep u_ a2.Conversion)]),.f 12 (λ u_=>[(false,.ptr Rep.bool u_ a2.Conversion.Signed)]),.k 13 (.bool a2.Conversion.Signed),.k 14 (.int .u8 a1)] [[],[0],[1],[],[2,3],[],[5],[6],[]] [] [0,1,2,3,4,5,6,7,8] Qi rfl rfl rfl h (.cons ?_ (.cons ?_ (.cons ?_ (.cons ?_ (.cons ?_ (.cons ?_ (.cons ?_ (.cons ?_ (.cons ?_ .nil))))))))) (λ q1 w hq1 h=>?_)
 ·intro q1 w Γx Ωx h
  refine OpS.fptr h Qnq Sensor_.f6 rfl rfl rfl .z (λ u h7=>?_)
  exact ⟨u,rfl,trivial,h7⟩
 ·intro q1 w Γx Ωx h
  refine OpS.fptr h Qns Conversion_.f1 rfl rfl rfl .z (λ u h8=>?_)
  exact ⟨u,rfl,trivial,h8⟩
 ·intro q1 w Γx Ωx h
  refine OpS.loadb h ty4 rfl rfl rfl .z ?_
  exact du h
 ·intro q1 w Γx Ωx h
  refine OpS.mv rfl rfl rfl ?_
  exact du h
 ·intro q1 w Γx Ωx h
  refine OpS.callP h Tryz.func51 rfl rfl rfl rfl (vs:=[.bool a2.Conversion.Signed,.int .u8 a0]) rfl (Qbj e1) .nil ?_
  rintro _ w2 _ _ _ ⟨rfl,rfl,rfl,rfl⟩ h9
  have h10:=h9 rfl rfl
  simp only [ca,na] at h10
  exact ⟨undef,rfl,trivial,h10⟩
 ·intro q1 w Γx Ωx h
  refine OpS.fptr h Qnq Sensor_.f6 rfl rfl rfl .z (λ u h11=>?_)
  exact ⟨u,rfl,trivial,h11⟩
 ·intro q1 w Γx Ωx h
  refine OpS.fptr h Qns Conversion_.f1 rfl rfl rfl .z (λ u h12=>?_)
  exact ⟨u,rfl,trivial,h12⟩
 ·intro q1 w Γx Ωx h
  refine OpS.loadb h ty4 rfl rfl rfl .z ?_
  exact du h
 ·intro q1 w Γx Ωx h
  refine OpS.mv rfl rfl rfl ?_
  exact du h
 have h13:=h
 obtain ⟨y2,e2,hF⟩:=Qa hF
 refine op (OpS.callP h13 Tryz.func51 rfl rfl rfl rfl (vs:=[.bool a2.Conversion.Signed,.int .u8 a1]) rfl (Qbj e2) .nil ?_)
 rintro _ w3 _ _ _ ⟨rfl,rfl,rfl,rfl⟩ h14
 have h15:=h14 rfl rfl
 simp only [ca,na] at h15
 obtain ⟨y3,e3,hF⟩:=Qa hF
 refine op (OpS.callP h15 Tryz.func166 rfl rfl rfl rfl (vs:=[.int .i64 y1,.int .i64 y2]) rfl (Qlz e3) .nil ?_)
 rintro _ w4 _ _ _ ⟨rfl,rfl,rfl,rfl⟩ h16
 have h17:=h16 rfl rfl
 simp only [ca,na] at h17
 refine ga rfl (nil (Run.retP rfl (.tmp rfl .nil) ?_))
 cases hF
 exact Post.mk' ⟨rfl,rfl,rfl,rfl⟩ (h17.picks .nil) .nil
set_option maxRecDepth 20000 in
theorem Qcs {fuel:Nat} {a0:List Int} {a1:Int} {a2:Int} {a3_0:Sensor_} {y:(List Int)} (hF:Qt fuel a0 a1 a2 a3_0=some y) {w:World} {v0 v3_0:Value} :
  Spec Tryz.prog 253 [v0,.int .i64 a1,.int .i64 a2,.func (.func 165) #[] #[v3_0]].toArray w [(false,.ptr Sensor_.rep v3_0 a3_0)] [(false,.slice 5 (Rep.int .u8) v0 a0)] (λ v Γr Ωr Ωo=>v=.tuple #[]∧Γr=[]∧Ωr=[]∧Ωo=[(false,.slice 5 (Rep.int .u8) v0 y)]):=by
 refine Spec.of (L:=[(0,v0),(1,.int .i64 a1),(2,.int .i64 a2),(3,.func (.func 165) #[] #[v3_0])]) Tryz.func253 rfl ⟨rfl,rfl,rfl,rfl,trivial⟩ rfl (λ e h=>?_)
 unfold Qt at hF
 refine sr (gm rfl (gb rfl (ga rfl ?_)))
 obtain ⟨x1,e1,hF⟩:=Qh hF
 refine RunL.name e1 ?_
 refine nil (Run.block (Run.slim [(0,v0),(1,.int .i64 a1),(2,.int .i64 a2),(3,.func (.func 165) #[] #[v3_0]),(8,.int .i64 x1)] ⟨rfl,rfl,rfl,rfl,rfl,trivial⟩ ?_))
 refine Run.loopP (σ:=(Int×(List Int))) (λ s_ L_ w_=>L_=[(0,v0),(1,.int .i64 a1),(2,.int .i64 a2),(3,.func (.func 165) #[] #[v3_0]),(8,.int .i64 s_.1)]∧St e w_ [(false,.ptr Sensor_.rep v3_0 a3_0)] [(false,.slice 5 (Rep.int .u8) v0 s_.2)]) hF ⟨rfl,(h.facts (.atm .z .nil)).picks (.cons .z .nil)⟩ (λ k1 hk1 s1 _ w1 hI hF=>?_)
 obtain ⟨rfl,h1⟩:=hI
 refine Run.seq (sr (gm rfl (gm rfl (gb rfl (nil ?_)))))
 refine Run.ite rfl hF (λ e2 hF=>?_) (λ e2 hF=>?_)
 ·refine Run.skip (Run.seq (Run.block (sr (gm rfl (ga rfl (nil (Run.block (Run.slim [(0,v0),(1,.int .i64 a1),(2,.int .i64 a2),(3,.func (.func 165) #[] #[v3_0]),(8,.int .i64 s1.1),(9,.int .i64 s1.1)] ⟨rfl,rfl,rfl,rfl,rfl,rfl,trivial⟩ ?_))))))))
  refine Run.loopP (σ:=(Int×(List Int))) (λ s_ L_ w_=>L_=[(0,v0),(1,.int .i64 a1),(2,.int .i64 a2),(3,.func (.func 165) #[] #[v3_0]),(8,.int .i64 s1.1),(9,.int .i64 s_.1)]∧St e w_ [(false,.ptr Sensor_.rep v3_0 a3_0)] [(false,.slice 5 (Rep.int .u8) v0 s_.2)]) hF ⟨rfl,(h1.facts (.atm .z .nil)).picks (.cons .z .nil)⟩ (λ k2 hk2 s2 _ w2 hI hF=>?_)
  obtain ⟨rfl,h2⟩:=hI
  refine Run.seq (Run.seq ?_)
  refine Run.join (σ:=Bool) (λ s_ L_ w_=>L_=[(0,v0),(1,.int .i64 a1),(2,.int .i64 a2),(3,.func (.func 165) #[] #[v3_0]),(8,.int .i64 s1.1),(9,.int .i64 s2.1),(34,.bool s_)]∧St e w_ [(false,.ptr Sensor_.rep v3_0 a3_0)] [(false,.slice 5 (Rep.int .u8) v0 s2.2)]) hF (λ s3 _ w3 hI hF=>?_) (λ j1 hj1 hF=>?_)
  ·obtain ⟨rfl,h3⟩:=hI
   refine Run.ite rfl hF (λ e3 hF=>?_) (λ e3 hF=>?_)
   ·refine Run.skip (Run.seq (Run.block ?_))
    obtain ⟨x2,e4,hF⟩:=Qa hF
    obtain ⟨x3,e5,hF⟩:=Qa hF
    obtain ⟨d1,e6,hF⟩:=Qh hF
    refine Run.drawV (Ωs:=[]) [.k 37 v0,.k 38 (.int .i64 s2.1),.k 39 v0,.k 40 (.int .i64 s2.1),.k 41 (.int .i64 (IntKind.i64.wrap (s2.1-1))),.k 42 v0,.k 43 (.int .i64 s2.1),.k 44 (.int .i64 (IntKind.i64.wrap (s2.1-1))),⟨some 45,some ((padd (sp v0) (((IntKind.i64.wrap (s2.1-1)):Int).toNat*(Rep.int .u8).n))),λ _=>[],λ ds_ u_=>[],[],[(0,[15,8])],none⟩,⟨some 46,some (.int .u8 x2),λ _=>[],λ ds_ u_=>[],[],[(0,[15,9])],none⟩,.k 47 v0,.k 48 (.int .i64 s2.1),⟨some 49,some ((padd (sp v0) ((s2.1:Int).toNat*(Rep.int .u8).n))),λ _=>[],λ ds_ u_=>[],[],[(0,[15,13,12])],none⟩,⟨some 50,some (.int .u8 x3),λ _=>[],λ ds_ u_=>[],[],[(0,[15,13])],none⟩,⟨some 51,some ((padd (sp v0) ((s2.1:Int).toNat*(Rep.int .u8).n))),λ _=>[],λ ds_ u_=>[],[],[(0,[15,14])],none⟩,⟨none,some undef,λ _=>[],λ ds_ u_=>[(false,.slice 5 (Rep.int .u8) v0 d1)],[0],[],none⟩] [[],[],[],[],[3],[],[],[6],[5,7],[8],[],[],[10,11],[12],[0,1],[14,9]] [[(false,.slice 5 (Rep.int .u8) v0 s2.2)]] [1,2,3,4,5,6,7,8,9,10,11,12,13,14,15,16] Qi rfl rfl rfl h3 (.cons ?_ (.cons ?_ (.cons ?_ (.cons ?_ (.cons ?_ (.cons ?_ (.cons ?_ (.cons ?_ (.cons ?_ (.cons ?_ (.cons ?_ (.cons ?_ (.cons ?_ (.cons ?_ (.cons ?_ (.cons ?_ .nil)))))))))))))))) (λ q1 w hq1 h=>?_)
    ·intro q1 w Γx Ωx h
     refine OpS.mv rfl rfl rfl ?_
     exact du h
    ·intro q1 w Γx Ωx h
     refine OpS.mv rfl rfl rfl ?_
     exact du h
    ·intro q1 w Γx Ωx h
     refine OpS.mv rfl rfl rfl ?_
     exact du h
    ·intro q1 w Γx Ωx h
     refine OpS.mv rfl rfl rfl ?_
     exact du h
    ·intro q1 w Γx Ωx h
     refine OpS.bin rfl rfl rfl rfl rfl ?_
     exact du h
    ·intro q1 w Γx Ωx h
     refine OpS.mv rfl rfl rfl ?_
     exact du h
    ·intro q1 w Γx Ωx h
     refine OpS.mv rfl rfl rfl ?_
     exact du h
    ·intro q1 w Γx Ωx h
     refine OpS.bin rfl rfl rfl rfl rfl ?_
     exact du h
    ·intro q1 w Γx Ωx h
     refine OpS.iown h .z Tryz.underlying24 ty5 rfl rfl rfl rfl e4 ?_
     exact du h
    ·intro q1 w Γx Ωx h
     refine OpS.loadOi h .z (Qnl e4) PA.a (Get.arr e4) ty5 rfl rfl rfl ?_
     exact du h
    ·intro q1 w Γx Ωx h
     refine OpS.mv rfl rfl rfl ?_
     exact du h
    ·intro q1 w Γx Ωx h
     refine OpS.mv rfl rfl rfl ?_
     exact du h
    ·intro q1 w Γx Ωx h
     refine OpS.iown h .z Tryz.underlying24 ty5 rfl rfl rfl rfl e5 ?_
     exact du h
    ·intro q1 w Γx Ωx h
     refine OpS.loadOi h .z (Qnl e5) PA.a (Get.arr e5) ty5 rfl rfl rfl ?_
     exact du h
    ·intro q1 w Γx Ωx h
     refine OpS.iown h .z Tryz.underlying24 ty5 rfl rfl rfl rfl e5 ?_
     exact du h
    ·intro q1 w Γx Ωx h
     refine OpS.storeO (f':=true) h .z (Qnl e5) PA.a (Put.of (Put.arr e5) e6) ty5 rfl rfl rfl V.int (.inr rfl) (λ w5 h5=>?_)
     exact ⟨undef,trivial,trivial,h5⟩
    have h6:=h
    obtain ⟨x4,e7,hF⟩:=Qa hF
    refine op (OpS.iown h6 .z Tryz.underlying24 ty5 rfl rfl rfl rfl e7 ?_)
    obtain ⟨d2,e8,hF⟩:=Qh hF
    refine op (OpS.storeO (f':=true) h6 .z (Qnl e7) PA.a (Put.of (Put.arr e7) e8) ty5 rfl rfl rfl V.int (.inr rfl) (λ w6 h7=>?_))
    refine nil (Run.endBlock (Run.reg (gm rfl (gb rfl (ga rfl ?_)))))
    obtain ⟨x5,e9,hF⟩:=Qh hF
    refine RunL.name e9 ?_
    refine nil (Run.slim [(0,v0),(1,.int .i64 a1),(2,.int .i64 a2),(3,.func (.func 165) #[] #[v3_0]),(8,.int .i64 s1.1),(9,.int .i64 x5)] ⟨rfl,rfl,rfl,rfl,rfl,rfl,trivial⟩ ?_)
    exact hk2 (x5,d2) _ _ ⟨rfl,(h7.facts (.atm .z .nil)).picks (.cons .z .nil)⟩ hF
   refine Run.exit rfl ?_
   refine Run.endBlock (Run.reg (gm rfl (gb rfl (ga rfl ?_))))
   obtain ⟨x6,e10,hF⟩:=Qh hF
   refine RunL.name e10 ?_
   refine nil (Run.slim [(0,v0),(1,.int .i64 a1),(2,.int .i64 a2),(3,.func (.func 165) #[] #[v3_0]),(8,.int .i64 x6)] ⟨rfl,rfl,rfl,rfl,rfl,trivial⟩ ?_)
   exact hk1 (x6,s2.2) _ _ ⟨rfl,(h3.facts (.atm .z .nil)).picks (.cons .z .nil)⟩ hF
  obtain ⟨x7,e11,hF⟩:=Qh hF
  refine Qap hF (λ e12 hF=>?_) (λ e12 hF=>?_)
  ·have hG:=hF
   subst e12
   have hF:=hG
   obtain ⟨x8,e13,hF⟩:=Qa hF
   obtain ⟨x9,e14,hF⟩:=Qa hF
   refine Run.drawV (Ωs:=[]) [.k 18 (.int .i64 s2.1),.k 19 (.int .i64 a1),.k 20 (.bool (decide (s2.1>a1))),.k 21 (.bool true),.k 22 (.func (.func 165) #[] #[v3_0]),.k 23 v0,.k 24 (.int .i64 s2.1),.kr 25 (padd (sp v0) ((s2.1:Int).toNat*(Rep.int .u8).n)) [0],.kr 26 (.int .u8 x8) [0],.k 27 v0,.k 28 (.int .i64 s2.1),.k 29 (.int .i64 (IntKind.i64.wrap (s2.1-1))),.kr 30 (padd (sp v0) (((IntKind.i64.wrap (s2.1-1)):Int).toNat*(Rep.int .u8).n)) [0],.kr 31 (.int .u8 x9) [0]] [[],[],[0,1],[2],[3],[3],[3],[5,6,3],[7,3],[3],[3],[10,3],[9,11,3],[12,3]] [[(false,.slice 5 (Rep.int .u8) v0 s2.2)]] [0,1,2,3,4,5,6,7,8,9,10,11,12,13,14] Qi rfl rfl rfl h2 (.cons ?_ (.cons ?_ (.cons ?_ (.cons ?_ (.cons ?_ (.cons ?_ (.cons ?_ (.cons ?_ (.cons ?_ (.cons ?_ (.cons ?_ (.cons ?_ (.cons ?_ (.cons ?_ .nil)))))))))))))) (λ q2 w hq2 h=>?_)
   ·intro q2 w Γx Ωx h
    refine OpS.mv rfl rfl rfl ?_
    exact du h
   ·intro q2 w Γx Ωx h
    refine OpS.mv rfl rfl rfl ?_
    exact du h
   ·intro q2 w Γx Ωx h
    refine OpS.bin rfl rfl rfl rfl rfl ?_
    exact du h
   ·intro q2 w Γx Ωx h
    refine OpS.mv rfl rfl rfl ?_
    exact ⟨undef,(congrArg (λ z_=>some (Value.bool z_)) e11),trivial,h⟩
   ·intro q2 w Γx Ωx h
    refine OpS.mv rfl rfl rfl ?_
    exact du h
   ·intro q2 w Γx Ωx h
    refine OpS.mv rfl rfl rfl ?_
    exact du h
   ·intro q2 w Γx Ωx h
    refine OpS.mv rfl rfl rfl ?_
    exact du h
   ·intro q2 w Γx Ωx h
    refine OpS.iown h .z Tryz.underlying24 ty5 rfl rfl rfl rfl e13 ?_
    exact du h
   ·intro q2 w Γx Ωx h
    refine OpS.loadOi h .z (Qnl e13) PA.a (Get.arr e13) ty5 rfl rfl rfl ?_
    exact du h
   ·intro q2 w Γx Ωx h
    refine OpS.mv rfl rfl rfl ?_
    exact du h
   ·intro q2 w Γx Ωx h
    refine OpS.mv rfl rfl rfl ?_
    exact du h
   ·intro q2 w Γx Ωx h
    refine OpS.bin rfl rfl rfl rfl rfl ?_
    exact du h
   ·intro q2 w Γx Ωx h
    refine OpS.iown h .z Tryz.underlying24 ty5 rfl rfl rfl rfl e14 ?_
    exact du h
   ·intro q2 w Γx Ωx h
    refine OpS.loadOi h .z (Qnl e14) PA.a (Get.arr e14) ty5 rfl rfl rfl ?_
    exact du h
   have h8:=h
   obtain ⟨y1,e15,hF⟩:=Qa hF
   refine op (OpS.callPF (fl:=[]) (cl:=[v3_0]) h8 Tryz.func165 rfl rfl rfl rfl rfl (vs:=[.int .u8 x8,.int .u8 x9]) rfl (Qjo e15) (.ptr .z .nil) ?_)
   rintro _ w7 _ _ _ ⟨rfl,rfl,rfl,rfl⟩ h9
   have h10:=h9 rfl rfl
   simp only [ca,na] at h10
   refine gb rfl (gk rfl (nil (Run.slim [(0,v0),(1,.int .i64 a1),(2,.int .i64 a2),(3,.func (.func 165) #[] #[v3_0]),(8,.int .i64 s1.1),(9,.int .i64 s2.1),(34,.bool (decide (y1<0)))] ⟨rfl,rfl,rfl,rfl,rfl,rfl,rfl,trivial⟩ ?_)))
   exact hj1 (decide (y1<0)) _ _ ⟨rfl,(h10.facts (.atm .z .nil)).picks (.cons .z .nil)⟩ hF
  have hG:=hF
  subst e12
  have hF:=hG
  refine Run.drawV (Ωs:=[]) [.k 18 (.int .i64 s2.1),.k 19 (.int .i64 a1),.k 20 (.bool (decide (s2.1>a1))),.k 21 (.bool false),.k 22 undef,.k 23 undef,.k 24 undef,.k 25 undef,.k 26 undef,.k 27 undef,.k 28 undef,.k 29 undef,.k 30 undef,.k 31 undef] [[],[],[0,1],[2],[3],[3],[3],[3],[3],[3],[3],[3],[3],[3]] [[(false,.slice 5 (Rep.int .u8) v0 s2.2)]] [0,1,2,3,4,5,6,7,8,9,10,11,12,13,14] Qi rfl rfl rfl h2 (.cons ?_ (.cons ?_ (.cons ?_ (.cons ?_ (.cons (dp λ _=>rfl) (.cons (dp λ _=>rfl) (.cons (dp λ _=>rfl) (.cons (dp λ _=>rfl) (.cons (dp λ _=>rfl) (.cons (dp λ _=>rfl) (.cons (dp λ _=>rfl) (.cons (dp λ _=>rfl) (.cons (dp λ _=>rfl) (.cons (dp λ _=>rfl) .nil)))))))))))))) (λ q2 w hq3 h=>?_)
  ·intro q2 w Γx Ωx h
   refine OpS.mv rfl rfl rfl ?_
   exact du h
  ·intro q2 w Γx Ωx h
   refine OpS.mv rfl rfl rfl ?_
   exact du h
  ·intro q2 w Γx Ωx h
   refine OpS.bin rfl rfl rfl rfl rfl ?_
   exact du h
  ·intro q2 w Γx Ωx h
   refine OpS.mv rfl rfl rfl ?_
   exact ⟨undef,(congrArg (λ z_=>some (Value.bool z_)) e11),trivial,h⟩
  have h11:=h
  refine gp rfl (gp rfl (gk rfl (nil (Run.slim [(0,v0),(1,.int .i64 a1),(2,.int .i64 a2),(3,.func (.func 165) #[] #[v3_0]),(8,.int .i64 s1.1),(9,.int .i64 s2.1),(34,.bool false)] ⟨rfl,rfl,rfl,rfl,rfl,rfl,rfl,trivial⟩ ?_))))
  exact hj1 (false) _ _ ⟨rfl,(h11.facts (.atm .z .nil)).picks (.cons .z .nil)⟩ hF
 refine Run.exit rfl ?_
 refine Run.finP rfl .nil ?_
 cases hF
 exact Post.mk' ⟨rfl,rfl,rfl,rfl⟩ (h1.picks (.cons .z .nil)) .nil
theorem Qdk {fuel:Nat} {a0:List Int} {a1:Int} {a2:Int} {a3:Int} {a4_0:Sensor_} {y:(List Int)} (hF:Qac fuel a0 a1 a2 a3 a4_0=some y) {w:World} {v0 v4_0:Value} :
  Spec Tryz.prog 245 [v0,.int .i64 a1,.int .i64 a2,.int .i64 a3,.func (.func 165) #[] #[v4_0]].toArray w [(false,.ptr Sensor_.rep v4_0 a4_0)] [(false,.slice 5 (Rep.int .u8) v0 a0)] (λ v Γr Ωr Ωo=>v=.tuple #[]∧Γr=[]∧Ωr=[]∧Ωo=[(false,.slice 5 (Rep.int .u8) v0 y)]):=by
 refine Spec.of (L:=[(0,v0),(1,.int .i64 a1),(2,.int .i64 a2),(3,.int .i64 a3),(4,.func (.func 165) #[] #[v4_0])]) Tryz.func245 rfl ⟨rfl,rfl,rfl,rfl,rfl,trivial⟩ rfl (λ e h=>?_)
 unfold Qac at hF
 refine sr (ga rfl (nil (sr (ga rfl (nil (Run.block (Run.slim [(0,v0),(1,.int .i64 a1),(2,.int .i64 a2),(3,.int .i64 a3),(4,.func (.func 165) #[] #[v4_0]),(10,.bool true),(11,.bool true)] ⟨rfl,rfl,rfl,rfl,rfl,rfl,rfl,trivial⟩ ?_)))))))
 refine Run.loopP (σ:=Unit) (λ s_ L_ w_=>L_=[(0,v0),(1,.int .i64 a1),(2,.int .i64 a2),(3,.int .i64 a3),(4,.func (.func 165) #[] #[v4_0]),(10,.bool true),(11,.bool true)]∧St e w_ [(false,.ptr Sensor_.rep v4_0 a4_0)] [(false,.slice 5 (Rep.int .u8) v0 a0)]) hF ⟨rfl,(h.facts (.atm .z .nil)).picks (.cons .z .nil)⟩ (λ k1 hk1 s1 _ w1 hI hF=>?_)
 obtain ⟨rfl,h1⟩:=hI
 refine Run.block (sr (gm rfl (gm rfl (gb rfl (ga rfl ?_)))))
 obtain ⟨x1,e1,hF⟩:=Qh hF
 refine RunL.name e1 ?_
 refine nil (Run.seq (sr (gm rfl (gb rfl (nil ?_)))))
 refine Run.ite rfl hF (λ e2 hF=>?_) (λ e2 hF=>?_)
 ·refine sr (gm rfl (gm rfl (gm rfl (gm rfl ?_))))
  obtain ⟨y1,e3,hF⟩:=Qa hF
  have h2:=h1.front (.cons .z .nil)
  refine op (OpS.callO h2 Tryz.func253 rfl rfl rfl rfl (vs:=[v0,.int .i64 a1,.int .i64 a2,.func (.func 165) #[] #[v4_0]]) rfl (Qcs e3) rfl (.ptr .z .nil) ?_)
  rintro _ w2 _ _ _ ⟨rfl,rfl,rfl,rfl⟩ h3
  have h4:=h3
  simp only [ca,na] at h4
  refine nil (Run.retP rfl .nil ?_)
  cases hF
  exact Post.mk' ⟨rfl,rfl,rfl,rfl⟩ (h4.picks (.cons .z .nil)) .nil
 refine Run.skip (Run.seq (sr (gm rfl (gb rfl (nil ?_)))))
 refine Run.ite rfl hF (λ e4 hF=>?_) (λ e4 hF=>?_)
 ·refine sr (gm rfl (gm rfl (gm rfl (gm rfl ?_))))
  cases hF
 refine Run.skip (Run.seq (sr (gm rfl (op (OpS.not rfl rfl rfl ?_)))))
 refine nil ?_
 refine Run.ite rfl hF (λ e5 hF=>?_) (λ e5 hF=>?_)
 ·refine sr (gm rfl (gm rfl (gm rfl (gm rfl ?_))))
  cases hF
 refine Run.skip (sr (gm rfl (gm rfl (gm rfl (gm rfl ?_)))))
 cases hF
theorem Qdj {fuel:Nat} {a0:List Int} {a1_0:Sensor_} {y:(List Int)} (hF:Qae fuel a0 a1_0=some y) {w:World} {v0 v1_0:Value} :
  Spec Tryz.prog 214 [v0,.func (.func 165) #[] #[v1_0]].toArray w [(false,.ptr Sensor_.rep v1_0 a1_0)] [(false,.slice 5 (Rep.int .u8) v0 a0)] (λ v Γr Ωr Ωo=>v=.tuple #[]∧Γr=[]∧Ωr=[]∧Ωo=[(false,.slice 5 (Rep.int .u8) v0 y)]):=by
 refine Spec.of (L:=[(0,v0),(1,.func (.func 165) #[] #[v1_0])]) Tryz.func214 rfl ⟨rfl,rfl,trivial⟩ rfl (λ e h=>?_)
 unfold Qae at hF
 refine sr (gm rfl (op (OpS.lenO h .z Tryz.underlying24 rfl rfl rfl ?_)))
 refine ga rfl (nil (Run.reg (gm rfl (gm rfl (gm rfl (op (OpS.conv Tryz.underlying3 Tryz.underlying271 rfl rfl rfl ?_)))))))
 obtain ⟨y1,e1,hF⟩:=Qa hF
 refine op (OpS.callP h Tryz.func246 rfl rfl rfl rfl (vs:=[.int .u64 (IntKind.u64.wrap (a0.length:Int))]) rfl (Qso e1) .nil ?_)
 rintro _ w1 _ _ _ ⟨rfl,rfl,rfl,rfl⟩ h1
 have h2:=h1 rfl rfl
 simp only [ca,na] at h2
 refine gm rfl ?_
 obtain ⟨y2,e2,hF⟩:=Qa hF
 have h3:=h2.front (.cons .z .nil)
 refine op (OpS.callO h3 Tryz.func245 rfl rfl rfl rfl (vs:=[v0,.int .i64 0,.int .i64 (a0.length:Int),.int .i64 y1,.func (.func 165) #[] #[v1_0]]) rfl (Qdk e2) rfl (.ptr .z .nil) ?_)
 rintro _ w2 _ _ _ ⟨rfl,rfl,rfl,rfl⟩ h4
 have h5:=h4
 simp only [ca,na] at h5
 refine nil (Run.finP rfl .nil ?_)
 cases hF
 exact Post.mk' ⟨rfl,rfl,rfl,rfl⟩ (h5.picks (.cons .z .nil)) .nil
theorem Qay {fuel:Nat} {a0_0:List Int} {a1_0:Sensor_} {y:(List Int)} (hF:Qm fuel a0_0 a1_0=some y) {w:World} {v0_0 v1_0:Value} :
  Spec Tryz.prog 163 [.func (.func 215) #[] #[v0_0],.func (.func 165) #[] #[v1_0]].toArray w [(false,.ptr (Rep.slice (Rep.int .u8)) v0_0 a0_0),(false,.ptr Sensor_.rep v1_0 a1_0)] [] (λ v Γr Ωr Ωo=>∃ u0:Value,v=u0∧Γr=[]∧Ωr=[(false,(.slice 5 (Rep.int .u8) u0 y))]∧Ωo=[]):=by
 refine Spec.of (L:=[(0,.func (.func 215) #[] #[v0_0]),(1,.func (.func 165) #[] #[v1_0])]) Tryz.func163 rfl ⟨rfl,rfl,trivial⟩ rfl (λ e h=>?_)
 unfold Qm at hF
 refine sr (ga rfl (nil (sr (gm rfl ?_))))
 obtain ⟨y1,e1,hF⟩:=Qa hF
 have h1:=h.front .nil
 refine op (OpS.callO h1 Tryz.func213 rfl rfl rfl rfl (vs:=[.func (.func 215) #[] #[v0_0]]) rfl (Qdf e1) rfl (.ptr .z .nil) ?_)
 rintro u1 w1 _ _ _ ⟨_,rfl,rfl,rfl,rfl⟩ h2
 have h3:=h2
 simp only [ca,na] at h3
 refine ga rfl (nil (sr (gm rfl (gm rfl ?_))))
 obtain ⟨y2,e2,hF⟩:=Qa hF
 have h4:=h3.front (.cons .z .nil)
 refine op (OpS.callO h4 Tryz.func214 rfl rfl rfl rfl (vs:=[u1,.func (.func 165) #[] #[v1_0]]) rfl (Qdj e2) rfl (.ptr (.s .z) .nil) ?_)
 rintro _ w2 _ _ _ ⟨rfl,rfl,rfl,rfl⟩ h5
 have h6:=h5
 simp only [ca,na] at h6
 refine nil (sr (gm rfl (ga rfl (nil (Run.retP rfl (.tmp rfl .nil) ?_)))))
 cases hF
 exact Post.mk' ⟨u1,rfl,rfl,rfl,rfl⟩ (h6.picks (.cons .z .nil)) .nil
theorem Qlh {fuel:Nat} {a0:Sensor_} {a1:Filter_} {y:Int×Bool} (hF:Qdw fuel a0 a1=some y) {w:World} {v0 v1:Value} :
  Spec Tryz.prog 100 [v0,v1].toArray w [(false,.val Sensor_.rep v0 a0),(false,.val Filter_.rep v1 a1)] [] (λ v Γr Ωr Ωo=>v=.tuple #[.int .u8 y.1,.bool y.2]∧Γr=[]∧Ωr=[]∧Ωo=[]):=by
 refine Spec.of (L:=[(0,v0),(1,v1)]) Tryz.func100 rfl ⟨rfl,rfl,trivial⟩ rfl (λ e h=>?_)
 unfold Qdw at hF
 refine sr (op (OpS.boxF h rfl rfl rfl (V.at .z) (λ u1 w1 h1=>?_)))
 refine op (OpS.boxF h1 rfl rfl rfl (V.at (.s .z)) (λ u2 w2 h2=>?_))
 refine ga rfl (ga rfl (nil (Run.seq (sr (op (OpS.loadB h2 (.s .z) PA.z Get.id ty74 rfl rfl rfl (λ u3 h3=>?_)))))))
 refine op (OpS.loadB h3 .z PA.z Get.id ty188 rfl rfl rfl (λ u4 h4=>?_))
 obtain ⟨y1,e1,hF⟩:=Qa hF
 refine op (OpS.callP h4 Tryz.func162 rfl rfl rfl rfl (vs:=[u3,u4]) rfl (Qik e1) (.cons (f:=false) (V.at (.s .z)) (.cons (f:=false) (V.at .z) .nil)) ?_)
 rintro _ w3 _ _ _ ⟨rfl,rfl,rfl,rfl⟩ h5
 have h6:=h5 rfl rfl
 simp only [ca,na] at h6
 refine op (OpS.not rfl rfl rfl ?_)
 refine gm rfl ?_
 refine RunL.join (σ:=Bool) (λ s_ L_ w_=>L_=[(2,u1),(3,u2),(18,.bool s_)]∧St e w_ [] [(false,.box 74 Sensor_.rep u1 a0),(false,.box 188 Filter_.rep u2 a1)]) hF (λ s1 _ w4 hI hF=>?_) (λ j1 hj1 hF=>?_)
 ·obtain ⟨rfl,h7⟩:=hI
  refine Run.ite rfl hF (λ e2 hF=>?_) (λ e2 hF=>?_)
  ·refine sr (ga rfl (ga rfl (nil (Run.retP rfl (.tmp rfl (.tmp rfl .nil)) ?_))))
   cases hF
   exact Post.mk' ⟨rfl,rfl,rfl,rfl⟩ (h7.picks .nil) .nil
  refine Run.skip (sr (op (OpS.fbox (o3:=0) h7 (.s .z) PA.z Qew rfl rfl rfl rfl ?_)))
  refine op (OpS.loadB h7 (.s .z) PA.a (Get.fld Filter_.f0) ty24 rfl rfl rfl (λ u5 h8=>?_))
  obtain ⟨y2,e3,hF⟩:=Qa hF
  have h9:=h8.front .nil
  refine op (OpS.callO h9 Tryz.func164 rfl rfl rfl rfl (vs:=[u5]) rfl (Qhq e3) rfl (.cons (f:=false) (V.at .z) .nil) ?_)
  rintro _ w5 _ _ _ ⟨u6,rfl,rfl,rfl,rfl⟩ h10
  have h11:=h10
  simp only [ca,na] at h11
  refine op (OpS.mkf (fl:=[]) (cl:=[u1]) rfl rfl rfl rfl ?_)
  have h12:=(h11.pick (.s .z)).freezeBox
  have h13:=(h12.pick .z).freezeBox
  obtain ⟨y3,e4,hF⟩:=Qa hF
  have h14:=h13.front .nil
  refine op (OpS.callO h14 Tryz.func163 rfl rfl rfl rfl (vs:=[.func (.func 215) #[] #[u6],.func (.func 165) #[] #[u1]]) rfl (Qay e4) rfl (.ptr .z (.ptr (.s .z) .nil)) ?_)
  rintro u7 w6 _ _ _ ⟨_,rfl,rfl,rfl,rfl⟩ h15
  have h16:=h15
  simp only [ca,na] at h16
  refine ga rfl ?_
  have h17:=(h16.pick .z).freeze
  refine nil (sr (gm rfl (gm rfl (op (OpS.len h17 Tryz.underlying24 rfl rfl rfl (V.at .z) ?_)))))
  refine op (OpS.quo rfl rfl rfl rfl (by decide) ?_)
  obtain ⟨x1,e5,hF⟩:=Qa hF
  refine op (OpS.iptr h17 Tryz.underlying24 ty5 rfl rfl rfl rfl (V.at .z) e5 (λ u8 h18=>?_))
  refine op (OpS.loadi h18 ty5 rfl rfl rfl .z ?_)
  refine ga rfl (ga rfl (nil (Run.retP rfl (.tmp rfl (.tmp rfl .nil)) ?_)))
  cases hF
  exact Post.mk' ⟨rfl,rfl,rfl,rfl⟩ (h18.picks .nil) .nil
 refine RunL.caseb hF (λ e6 hF=>?_) (λ e6 hF=>?_)
 ·refine gp rfl (gp rfl (gp rfl (gp rfl (gp rfl (gp rfl (gk rfl (nil (Run.slim [(2,u1),(3,u2),(18,.bool true)] ⟨rfl,rfl,rfl,trivial⟩ ?_))))))))
  exact hj1 (true) _ _ ⟨rfl,(h6.facts .nil).picks (.cons (.s .z) (.cons .z .nil))⟩ hF
 refine op (OpS.fbox (o3:=0) h6 .z PA.z Qew rfl rfl rfl rfl ?_)
 refine op (OpS.loadB h6 .z PA.a (Get.fld Filter_.f0) ty24 rfl rfl rfl (λ u9 h19=>?_))
 refine op (OpS.len h19 Tryz.underlying24 rfl rfl rfl (V.at .z) ?_)
 refine op (OpS.fbox (o3:=27) h19 (.s .z) PA.z Qga rfl rfl rfl rfl ?_)
 refine op (OpS.loadBi h19 (.s .z) PA.a (Get.fld Sensor_.f14) ty3 rfl rfl rfl ?_)
 refine gb rfl (gk rfl (nil (Run.slim [(2,u1),(3,u2),(18,.bool ((a1.Window.length:Int) != a0.Samples))] ⟨rfl,rfl,rfl,trivial⟩ ?_)))
 exact hj1 ((a1.Window.length:Int) != a0.Samples) _ _ ⟨rfl,(h19.facts .nil).picks (.cons (.s .z) (.cons .z .nil))⟩ hF
theorem Qli {fuel:Nat} {a0:Sensor_} {y:Bool} (hF:Qdr fuel a0=some y) {w:World} {v0:Value} :
  Spec Tryz.prog 120 [v0].toArray w [(false,.val Sensor_.rep v0 a0)] [] (λ v Γr Ωr Ωo=>v=.bool y∧Γr=[]∧Ωr=[]∧Ωo=[]):=by
 refine Spec.of (L:=[(0,v0)]) Tryz.func120 rfl ⟨rfl,trivial⟩ rfl (λ e h=>?_)
 unfold Qdr at hF
 refine sr (op (OpS.boxF h rfl rfl rfl (V.at .z) (λ u1 w1 h1=>?_)))
 refine ga rfl (nil (sr (op (OpS.fbox (o3:=6) h1 .z PA.z Qnn rfl rfl rfl rfl ?_))))
 refine op (OpS.loadBb h1 .z PA.a (Get.fld Sensor_.f5) ty4 rfl rfl rfl ?_)
 refine op (OpS.not rfl rfl rfl ?_)
 refine gm rfl ?_
 refine RunL.caseb hF (λ e1 hF=>?_) (λ e1 hF=>?_)
 ·refine op (OpS.loadB h1 .z PA.z Get.id ty74 rfl rfl rfl (λ u2 h2=>?_))
  obtain ⟨y1,e2,hF⟩:=Qa hF
  refine op (OpS.callP h2 Tryz.func107 rfl rfl rfl rfl (vs:=[u2]) rfl (Qcw e2) (.cons (f:=false) (V.at .z) .nil) ?_)
  rintro _ w2 _ _ _ ⟨rfl,rfl,rfl,rfl⟩ h3
  have h4:=h3 rfl rfl
  simp only [ca,na] at h4
  refine gk rfl (ga rfl (nil (Run.retP rfl (.tmp rfl .nil) ?_)))
  cases hF
  exact Post.mk' ⟨rfl,rfl,rfl,rfl⟩ (h4.picks .nil) .nil
 refine gp rfl (gp rfl (gk rfl (ga rfl (nil (Run.retP rfl (.tmp rfl .nil) ?_)))))
 cases hF
 exact Post.mk' ⟨rfl,rfl,rfl,rfl⟩ (h1.picks .nil) .nil
set_option maxRecDepth 20000 in
theorem Qlj {fuel:Nat} {a0:Sensor_} {a1:Int} {a2:Int} {y:Int×Int} (hF:Qdp fuel a0 a1 a2=some y) {w:World} {v0:Value} :
  Spec Tryz.prog 190 [v0,.int .i64 a1,.int .u8 a2].toArray w [(false,.val Sensor_.rep v0 a0)] [] (λ v Γr Ωr Ωo=>v=.tuple #[.int .i64 y.1,.int .i64 y.2]∧Γr=[]∧Ωr=[]∧Ωo=[]):=by
 refine Spec.of (L:=[(0,v0),(1,.int .i64 a1),(2,.int .u8 a2)]) Tryz.func190 rfl ⟨rfl,rfl,rfl,trivial⟩ rfl (λ e h=>?_)
 unfold Qdp at hF
 refine sr (op (OpS.boxF h rfl rfl rfl (V.at .z) (λ u1 w1 h1=>?_)))
 refine ga rfl (ga rfl (nil (Run.seq ?_)))
 obtain ⟨y1,e1,hF⟩:=Qa hF
 obtain ⟨x1,e2,hF⟩:=Qa hF
 obtain ⟨e3,hF⟩:=Qr hF
 refine Run.drawV (Ωs:=[]) [.kr 10 (padd u1 7) [0],.kr 11 (padd u1 8) [0],.kr 12 (.bool a0.Conversion.Signed) [0],.k 13 (.int .u8 a2),.k 14 (.int .i64 y1),.kr 15 (padd u1 7) [0],.kr 16 (padd u1 8) [0],.kr 17 (.bool a0.Conversion.Signed) [0],.k 18 (.int .i64 a1),.kr 19 (padd u1 14) [0],.kr 20 (padd u1 15) [0],.kr 21 (padd u1 (15+(a1:Int).toNat*(Rep.int .u8).n)) [0],.kr 22 (.int .u8 x1) [0]] [[],[0],[1],[],[2,3],[],[5],[6],[],[],[9],[10,8],[11]] [[(false,.box 74 Sensor_.rep u1 a0)]] [0,1,2,3,4,5,6,7,8,9,10,11,12,13] Qi rfl rfl rfl h1 (.cons ?_ (.cons ?_ (.cons ?_ (.cons ?_ (.cons ?_ (.cons ?_ (.cons ?_ (.cons ?_ (.cons ?_ (.cons ?_ (.cons ?_ (.cons ?_ (.cons ?_ .nil))))))))))))) (λ q1 w hq1 h=>?_)
 ·intro q1 w Γx Ωx h
  refine OpS.fbox (o3:=7) h .z PA.z Qnq rfl rfl rfl rfl ?_
  exact du h
 ·intro q1 w Γx Ωx h
  refine OpS.fbox (o3:=8) h .z PA.a Qns rfl rfl rfl rfl ?_
  exact du h
 ·intro q1 w Γx Ωx h
  refine OpS.loadBb h .z PA.a (Get.comp (Get.fld Sensor_.f6) (Get.fld Conversion_.f1)) ty4 rfl rfl rfl ?_
  exact du h
 ·intro q1 w Γx Ωx h
  refine OpS.mv rfl rfl rfl ?_
  exact du h
 ·intro q1 w Γx Ωx h
  refine OpS.callP h Tryz.func51 rfl rfl rfl rfl (vs:=[.bool a0.Conversion.Signed,.int .u8 a2]) rfl (Qbj e1) .nil ?_
  rintro _ w3 _ _ _ ⟨rfl,rfl,rfl,rfl⟩ h4
  have h5:=h4 rfl rfl
  simp only [ca,na] at h5
  exact ⟨undef,rfl,trivial,h5⟩
 ·intro q1 w Γx Ωx h
  refine OpS.fbox (o3:=7) h .z PA.z Qnq rfl rfl rfl rfl ?_
  exact du h
 ·intro q1 w Γx Ωx h
  refine OpS.fbox (o3:=8) h .z PA.a Qns rfl rfl rfl rfl ?_
  exact du h
 ·intro q1 w Γx Ωx h
  refine OpS.loadBb h .z PA.a (Get.comp (Get.fld Sensor_.f6) (Get.fld Conversion_.f1)) ty4 rfl rfl rfl ?_
  exact du h
 ·intro q1 w Γx Ωx h
  refine OpS.mv rfl rfl rfl ?_
  exact du h
 ·intro q1 w Γx Ωx h
  refine OpS.fbox (o3:=14) h .z PA.z Qnm rfl rfl rfl rfl ?_
  exact du h
 ·intro q1 w Γx Ωx h
  refine OpS.fbox (o3:=15) h .z PA.a Qnz rfl rfl rfl rfl ?_
  exact du h
 ·intro q1 w Γx Ωx h
  refine OpS.ibox h .z PA.a Tryz.underlying70 ty5 (Nat.eq_of_beq_eq_true e3) rfl rfl rfl rfl e2 ?_
  exact du h
 ·intro q1 w Γx Ωx h
  refine OpS.loadBi h .z PA.a (Get.comp (Get.comp (Get.fld Sensor_.f7) (Get.fld Thresholds_.f1)) (Get.arr e2)) ty5 rfl rfl rfl ?_
  exact du h
 have h6:=h
 obtain ⟨y2,e4,hF⟩:=Qa hF
 refine op (OpS.callP h6 Tryz.func51 rfl rfl rfl rfl (vs:=[.bool a0.Conversion.Signed,.int .u8 x1]) rfl (Qbj e4) .nil ?_)
 rintro _ w4 _ _ _ ⟨rfl,rfl,rfl,rfl⟩ h7
 have h8:=h7 rfl rfl
 simp only [ca,na] at h8
 refine ga rfl (ga rfl (nil (Run.seq (sr (gm rfl (gb rfl (nil ?_)))))))
 refine Run.ite rfl hF (λ e5 hF=>?_) (λ e5 hF=>?_)
 ·refine Run.seq (Run.slim [(25,.bool (decide (a1≤2))),(9,.int .i64 y2),(8,.int .i64 y1),(3,u1)] ⟨rfl,rfl,rfl,rfl,trivial⟩ ?_)
  refine Run.drawV (Ωs:=[]) [.k 26 (.int .i64 y2),.k 27 (.int .i64 y1),.k 28 (.int .i64 (IntKind.i64.wrap (y2-y1))),.kr 29 (padd u1 21) [0],.kr 30 (.int .u8 a0.HystLower) [0],.k 31 (.int .i64 (IntKind.i64.wrap a0.HystLower)),.k 6 (.int .i64 (IntKind.i64.wrap (y2-y1)))] [[],[],[0,1],[],[3],[4],[2]] [[(false,.box 74 Sensor_.rep u1 a0)]] [0,1,2,3,4,5,6,7] Qi rfl rfl rfl h8 (.cons ?_ (.cons ?_ (.cons ?_ (.cons ?_ (.cons ?_ (.cons ?_ (.cons ?_ .nil))))))) (λ q2 w hq2 h=>?_)
  ·intro q2 w Γx Ωx h
   refine OpS.mv rfl rfl rfl ?_
   exact du h
  ·intro q2 w Γx Ωx h
   refine OpS.mv rfl rfl rfl ?_
   exact du h
  ·intro q2 w Γx Ωx h
   refine OpS.bin rfl rfl rfl rfl rfl ?_
   exact du h
  ·intro q2 w Γx Ωx h
   refine OpS.fbox (o3:=21) h .z PA.z Qru rfl rfl rfl rfl ?_
   exact du h
  ·intro q2 w Γx Ωx h
   refine OpS.loadBi h .z PA.a (Get.fld Sensor_.f8) ty5 rfl rfl rfl ?_
   exact du h
  ·intro q2 w Γx Ωx h
   refine OpS.conv Tryz.underlying5 Tryz.underlying3 rfl rfl rfl ?_
   exact du h
  ·intro q2 w Γx Ωx h
   refine OpS.as rfl rfl rfl ?_
   exact du h
  have h9:=h
  refine ga rfl ?_
  obtain ⟨x2,e6,hF⟩:=Qh hF
  refine RunL.name e6 ?_
  refine nil (Run.retP rfl (.tmp rfl (.tmp rfl .nil)) ?_)
  cases hF
  exact Post.mk' ⟨rfl,rfl,rfl,rfl⟩ (h9.picks .nil) .nil
 refine Run.skip (Run.seq (Run.slim [(25,.bool (decide (a1≤2))),(9,.int .i64 y2),(8,.int .i64 y1),(3,u1)] ⟨rfl,rfl,rfl,rfl,trivial⟩ ?_))
 refine Run.drawV (Ωs:=[]) [.k 32 (.int .i64 y1),.k 33 (.int .i64 y2),.k 34 (.int .i64 (IntKind.i64.wrap (y1-y2))),.kr 35 (padd u1 22) [0],.kr 36 (.int .u8 a0.HystUpper) [0],.k 37 (.int .i64 (IntKind.i64.wrap a0.HystUpper)),.k 6 (.int .i64 (IntKind.i64.wrap (y1-y2)))] [[],[],[0,1],[],[3],[4],[2]] [[(false,.box 74 Sensor_.rep u1 a0)]] [0,1,2,3,4,5,6,7] Qi rfl rfl rfl h8 (.cons ?_ (.cons ?_ (.cons ?_ (.cons ?_ (.cons ?_ (.cons ?_ (.cons ?_ .nil))))))) (λ q3 w hq3 h=>?_)
 ·intro q3 w Γx Ωx h
  refine OpS.mv rfl rfl rfl ?_
  exact du h
 ·intro q3 w Γx Ωx h
  refine OpS.mv rfl rfl rfl ?_
  exact du h
 ·intro q3 w Γx Ωx h
  refine OpS.bin rfl rfl rfl rfl rfl ?_
  exact du h
 ·intro q3 w Γx Ωx h
  refine OpS.fbox (o3:=22) h .z PA.z Qpj rfl rfl rfl rfl ?_
  exact du h
 ·intro q3 w Γx Ωx h
  refine OpS.loadBi h .z PA.a (Get.fld Sensor_.f9) ty5 rfl rfl rfl ?_
  exact du h
 ·intro q3 w Γx Ωx h
  refine OpS.conv Tryz.underlying5 Tryz.underlying3 rfl rfl rfl ?_
  exact du h
 ·intro q3 w Γx Ωx h
  refine OpS.as rfl rfl rfl ?_
  exact du h
 have h10:=h
 refine ga rfl ?_
 obtain ⟨x3,e7,hF⟩:=Qh hF
 refine RunL.name e7 ?_
 refine nil (Run.retP rfl (.tmp rfl (.tmp rfl .nil)) ?_)
 cases hF
 exact Post.mk' ⟨rfl,rfl,rfl,rfl⟩ (h10.picks .nil) .nil
set_option maxRecDepth 20000 in
theorem Qmb {fuel:Nat} {a0:Sensor_} {a1:Int} {a2:Int} {y:Int} (hF:Qeu fuel a0 a1 a2=some y) {w:World} {v0:Value} :
  Spec Tryz.prog 121 [v0,.int .u8 a1,.int .u8 a2].toArray w [(false,.val Sensor_.rep v0 a0)] [] (λ v Γr Ωr Ωo=>v=.int .u8 y∧Γr=[]∧Ωr=[]∧Ωo=[]):=by
 refine Spec.of (L:=[(0,v0),(1,.int .u8 a1),(2,.int .u8 a2)]) Tryz.func121 rfl ⟨rfl,rfl,rfl,trivial⟩ rfl (λ e h=>?_)
 unfold Qeu at hF
 refine sr (op (OpS.boxF h rfl rfl rfl (V.at .z) (λ u1 w1 h1=>?_)))
 refine ga rfl (nil (sr (ga rfl (nil (Run.seq (sr (gm rfl (nil (Run.block (Run.slim [(1,.int .u8 a1),(2,.int .u8 a2),(3,u1),(7,.int .u8 0),(12,.int .i64 0)] ⟨rfl,rfl,rfl,rfl,rfl,trivial⟩ ?_))))))))))
 refine Run.loopP (σ:=(Int×Int)) (λ s_ L_ w_=>L_=[(1,.int .u8 a1),(2,.int .u8 a2),(3,u1),(7,.int .u8 s_.1),(12,.int .i64 s_.2)]∧St e w_ [] [(false,.box 74 Sensor_.rep u1 a0)]) hF ⟨rfl,(h1.facts .nil).picks (.cons .z .nil)⟩ (λ k1 hk1 s1 _ w2 hI hF=>?_)
 obtain ⟨rfl,h2⟩:=hI
 refine sr (gb rfl (nil (Run.seq ?_)))
 refine Run.ite rfl hF (λ e1 hF=>?_) (λ e1 hF=>?_)
 ·refine Run.skip (Run.seq (Run.block (sr (gm rfl (ga rfl (nil (Run.seq ?_)))))))
  obtain ⟨e2,hF⟩:=Qr hF
  refine Run.drawV (Ωs:=[]) [.k 15 (.int .i64 s1.2),.k 16 (.int .u8 (bShl .u8 1 s1.2)),.kr 17 (padd u1 14) [0],.kr 18 (padd u1 14) [0],.kr 19 (.int .u8 a0.Limits.Mask) [0]] [[],[0],[],[2],[3]] [[(false,.box 74 Sensor_.rep u1 a0)]] [0,1,2,3,4,5] Qi rfl rfl rfl h2 (.cons ?_ (.cons ?_ (.cons ?_ (.cons ?_ (.cons ?_ .nil))))) (λ q1 w hq1 h=>?_)
  ·intro q1 w Γx Ωx h
   refine OpS.mv rfl rfl rfl ?_
   exact du h
  ·intro q1 w Γx Ωx h
   refine OpS.shl rfl rfl rfl rfl e2 ?_
   exact du h
  ·intro q1 w Γx Ωx h
   refine OpS.fbox (o3:=14) h .z PA.z Qnm rfl rfl rfl rfl ?_
   exact du h
  ·intro q1 w Γx Ωx h
   refine OpS.fbox (o3:=14) h .z PA.a Qnt rfl rfl rfl rfl ?_
   exact du h
  ·intro q1 w Γx Ωx h
   refine OpS.loadBi h .z PA.a (Get.comp (Get.fld Sensor_.f7) (Get.fld Thresholds_.f0)) ty5 rfl rfl rfl ?_
   exact du h
  have h3:=h
  refine gb rfl (ga rfl ?_)
  obtain ⟨x1,e3,hF⟩:=Qh hF
  refine RunL.name e3 ?_
  refine nil (sr (op (OpS.loadB h3 .z PA.z Get.id ty74 rfl rfl rfl (λ u2 h4=>?_))))
  refine gm rfl (gm rfl ?_)
  obtain ⟨y1,e4,hF⟩:=Qa hF
  refine op (OpS.callP h4 Tryz.func190 rfl rfl rfl rfl (vs:=[u2,.int .i64 s1.2,.int .u8 a2]) rfl (Qlj e4) (.cons (f:=false) (V.at .z) .nil) ?_)
  rintro _ w3 _ _ _ ⟨rfl,rfl,rfl,rfl⟩ h5
  have h6:=h5 rfl rfl
  simp only [ca,na] at h6
  refine gm rfl (op (OpS.ext rfl rfl rfl rfl ?_))
  refine op (OpS.ext rfl rfl rfl rfl ?_)
  refine ga rfl (ga rfl (nil (sr (gm rfl (gb rfl (gm rfl ?_))))))
  refine RunL.join (σ:=Bool) (λ s_ L_ w_=>L_=[(1,.int .u8 a1),(2,.int .u8 a2),(3,u1),(7,.int .u8 s1.1),(9,.int .u8 x1),(12,.int .i64 s1.2),(41,.bool s_)]∧St e w_ [] [(false,.box 74 Sensor_.rep u1 a0)]) hF (λ s2 _ w4 hI hF=>?_) (λ j1 hj1 hF=>?_)
  ·obtain ⟨rfl,h7⟩:=hI
   refine Run.ite rfl hF (λ e5 hF=>?_) (λ e5 hF=>?_)
   ·refine Run.reg (gm rfl (gm rfl (gb rfl (ga rfl (nil (Run.endBlock (Run.reg (gb rfl (gm rfl (nil (Run.slim [(1,.int .u8 a1),(2,.int .u8 a2),(3,u1),(7,.int .u8 (bOr .u8 s1.1 x1)),(12,.int .i64 (IntKind.i64.wrap (s1.2+1)))] ⟨rfl,rfl,rfl,rfl,rfl,trivial⟩ ?_)))))))))))
    exact hk1 ((bOr .u8 s1.1 x1),(IntKind.i64.wrap (s1.2+1))) _ _ ⟨rfl,(h7.facts .nil).picks (.cons .z .nil)⟩ hF
   refine Run.skip (Run.endBlock (Run.reg (gb rfl (gm rfl (nil (Run.slim [(1,.int .u8 a1),(2,.int .u8 a2),(3,u1),(7,.int .u8 s1.1),(12,.int .i64 (IntKind.i64.wrap (s1.2+1)))] ⟨rfl,rfl,rfl,rfl,rfl,trivial⟩ ?_))))))
   exact hk1 (s1.1,(IntKind.i64.wrap (s1.2+1))) _ _ ⟨rfl,(h7.facts .nil).picks (.cons .z .nil)⟩ hF
  refine RunL.caseb hF (λ e6 hF=>?_) (λ e6 hF=>?_)
  ·refine gp rfl (gp rfl (gp rfl (gp rfl (gp rfl (gp rfl (gp rfl (gp rfl (gp rfl (gp rfl (gk rfl (nil (Run.slim [(41,.bool true),(9,.int .u8 x1),(1,.int .u8 a1),(2,.int .u8 a2),(3,u1),(7,.int .u8 s1.1),(12,.int .i64 s1.2)] ⟨rfl,rfl,rfl,rfl,rfl,rfl,rfl,trivial⟩ ?_))))))))))))
   refine Run.slim [(1,.int .u8 a1),(2,.int .u8 a2),(3,u1),(7,.int .u8 s1.1),(9,.int .u8 x1),(12,.int .i64 s1.2),(41,.bool true)] ⟨rfl,rfl,rfl,rfl,rfl,rfl,rfl,trivial⟩ ?_
   exact hj1 (true) _ _ ⟨rfl,(h6.facts .nil).picks (.cons .z .nil)⟩ hF
  refine gm rfl (gm rfl (gb rfl (gb rfl (gm rfl ?_))))
  refine RunL.caseb hF (λ e7 hF=>?_) (λ e7 hF=>?_)
  ·refine gm rfl (gm rfl (op (OpS.neg rfl rfl rfl ?_)))
   refine gb rfl (gk rfl (gk rfl (nil (Run.slim [(41,.bool (decide (y1.1≥(IntKind.i64.wrap (0-y1.2))))),(9,.int .u8 x1),(1,.int .u8 a1),(2,.int .u8 a2),(3,u1),(7,.int .u8 s1.1),(12,.int .i64 s1.2)] ⟨rfl,rfl,rfl,rfl,rfl,rfl,rfl,trivial⟩ ?_))))
   refine Run.slim [(1,.int .u8 a1),(2,.int .u8 a2),(3,u1),(7,.int .u8 s1.1),(9,.int .u8 x1),(12,.int .i64 s1.2),(41,.bool (decide (y1.1≥(IntKind.i64.wrap (0-y1.2)))))] ⟨rfl,rfl,rfl,rfl,rfl,rfl,rfl,trivial⟩ ?_
   exact hj1 (decide (y1.1≥(IntKind.i64.wrap (0-y1.2)))) _ _ ⟨rfl,(h6.facts .nil).picks (.cons .z .nil)⟩ hF
  refine gp rfl (gp rfl (gp rfl (gp rfl (gk rfl (gk rfl (nil (Run.slim [(41,.bool false),(9,.int .u8 x1),(1,.int .u8 a1),(2,.int .u8 a2),(3,u1),(7,.int .u8 s1.1),(12,.int .i64 s1.2)] ⟨rfl,rfl,rfl,rfl,rfl,rfl,rfl,trivial⟩ ?_)))))))
  refine Run.slim [(1,.int .u8 a1),(2,.int .u8 a2),(3,u1),(7,.int .u8 s1.1),(9,.int .u8 x1),(12,.int .i64 s1.2),(41,.bool false)] ⟨rfl,rfl,rfl,rfl,rfl,rfl,rfl,trivial⟩ ?_
  exact hj1 (false) _ _ ⟨rfl,(h6.facts .nil).picks (.cons .z .nil)⟩ hF
 refine Run.exit rfl ?_
 refine sr (gm rfl (ga rfl (nil (Run.retP rfl (.tmp rfl .nil) ?_))))
 cases hF
 exact Post.mk' ⟨rfl,rfl,rfl,rfl⟩ (h2.picks .nil) .nil
theorem Qme {fuel:Nat} {a0:Sensor_} {a1:Int} {a2:Int} {y:Int×(List Change_)×Int} (hF:Qem fuel a0 a1 a2=some y) {w:World} {v0:Value} :
  Spec Tryz.prog 152 [v0,.int .u8 a1,.int .u8 a2].toArray w [(false,.val Sensor_.rep v0 a0)] [] (λ v Γr Ωr Ωo=>∃ u1:Value,v=.tuple #[.int .u8 y.1,u1,.int .i64 y.2.2]∧Γr=[]∧Ωr=[(true,(.slice 288 Change_.rep u1 y.2.1))]∧Ωo=[]):=by
 refine Spec.of (L:=[(0,v0),(1,.int .u8 a1),(2,.int .u8 a2)]) Tryz.func152 rfl ⟨rfl,rfl,rfl,trivial⟩ rfl (λ e h=>?_)
 unfold Qem at hF
 refine sr (op (OpS.boxF h rfl rfl rfl (V.at .z) (λ u1 w1 h1=>?_)))
 refine ga rfl (ga rfl (ga rfl (nil (Run.seq (Run.block (sr (op (OpS.loadB h1 .z PA.z Get.id ty74 rfl rfl rfl (λ u2 h2=>?_)))))))))
 obtain ⟨y1,e1,hF⟩:=Qa hF
 refine op (OpS.callP h2 Tryz.func120 rfl rfl rfl rfl (vs:=[u2]) rfl (Qli e1) (.cons (f:=false) (V.at .z) .nil) ?_)
 rintro _ w2 _ _ _ ⟨rfl,rfl,rfl,rfl⟩ h3
 have h4:=h3 rfl rfl
 simp only [ca,na] at h4
 refine op (OpS.not rfl rfl rfl ?_)
 refine ga rfl ?_
 obtain ⟨x1,e2,hF⟩:=Qh hF
 refine RunL.nameb e2 ?_
 refine nil ?_
 refine Run.ite rfl hF (λ e3 hF=>?_) (λ e3 hF=>?_)
 ·refine sr (ga rfl (ga rfl (ga rfl (nil ?_))))
  have h5:=St.nil 288 Change_.rep h4
  refine Run.retP rfl (.tmp rfl (.tmp rfl (.tmp rfl .nil))) ?_
  cases hF
  exact Post.mk' ⟨(.slice none 0 0),rfl,rfl,rfl,rfl⟩ (h5.picks (.cons .z .nil)) .nil
 refine sr (gm rfl (op (OpS.fbox (o3:=14) h4 .z PA.z Qnm rfl rfl rfl rfl ?_)))
 refine op (OpS.fbox (o3:=14) h4 .z PA.a Qnt rfl rfl rfl rfl ?_)
 refine op (OpS.loadBi h4 .z PA.a (Get.comp (Get.fld Sensor_.f7) (Get.fld Thresholds_.f0)) ty5 rfl rfl rfl ?_)
 refine gb rfl (gb rfl (ga rfl ?_))
 obtain ⟨x2,e4,hF⟩:=Qh hF
 refine RunL.nameb e4 ?_
 refine nil ?_
 refine Run.ite rfl hF (λ e5 hF=>?_) (λ e5 hF=>?_)
 ·refine sr (ga rfl (ga rfl (ga rfl (nil ?_))))
  have h6:=St.nil 288 Change_.rep h4
  refine Run.retP rfl (.tmp rfl (.tmp rfl (.tmp rfl .nil))) ?_
  cases hF
  exact Post.mk' ⟨(.slice none 0 0),rfl,rfl,rfl,rfl⟩ (h6.picks (.cons .z .nil)) .nil
 refine Run.skip (Run.endBlock (sr (op (OpS.loadB h4 .z PA.z Get.id ty74 rfl rfl rfl (λ u3 h7=>?_)))))
 refine gm rfl (gm rfl ?_)
 obtain ⟨y2,e6,hF⟩:=Qa hF
 refine op (OpS.callP h7 Tryz.func121 rfl rfl rfl rfl (vs:=[u3,.int .u8 a1,.int .u8 a2]) rfl (Qmb e6) (.cons (f:=false) (V.at .z) .nil) ?_)
 rintro _ w3 _ _ _ ⟨rfl,rfl,rfl,rfl⟩ h8
 have h9:=h8 rfl rfl
 simp only [ca,na] at h9
 refine ga rfl (nil (sr (ga rfl (nil (Run.seq (sr (gm rfl (nil (Run.block ?_)))))))))
 have h10:=St.nil 288 Change_.rep h9
 refine Run.slim [(1,.int .u8 a1),(9,.int .u8 y2),(10,(.slice none 0 0)),(27,.int .i64 0)] ⟨rfl,rfl,rfl,rfl,trivial⟩ ?_
 refine Run.loopP (σ:=(Int×(List Change_))) (λ s_ L_ w_=>∃ u0_:Value,L_=[(1,.int .u8 a1),(9,.int .u8 y2),(10,u0_),(27,.int .i64 s_.1)]∧St e w_ [] [(true,.slice 288 Change_.rep u0_ s_.2)]) hF ⟨(.slice none 0 0),rfl,(h10.facts .nil).picks (.cons .z .nil)⟩ (λ k1 hk1 s1 _ w4 hI hF=>?_)
 obtain ⟨u4,rfl,h11⟩:=hI
 refine sr (gb rfl (nil (Run.seq ?_)))
 refine Run.ite rfl hF (λ e7 hF=>?_) (λ e7 hF=>?_)
 ·refine Run.skip (Run.seq (Run.block (sr (gm rfl (ga rfl (nil (sr (gm rfl (gm rfl (gb rfl (gm rfl ?_)))))))))))
  obtain ⟨e8,hF⟩:=Qr hF
  refine op (OpS.shr rfl rfl rfl rfl e8 ?_)
  refine gb rfl (gb rfl (nil ?_))
  refine Run.ite rfl hF (λ e9 hF=>?_) (λ e9 hF=>?_)
  ·refine Run.reg (gm rfl (gm rfl (gm rfl (gm rfl ?_))))
   obtain ⟨e10,hF⟩:=Qr hF
   refine op (OpS.shr rfl rfl rfl rfl e10 ?_)
   refine gb rfl (gb rfl (op (OpS.build (f:=true) (x':=(⟨s1.1,(bAnd .u8 (bShr .u8 y2 s1.1) 1)==1⟩:Change_)) h11 pl288 ti288 Change_.zr rfl rfl rfl (.cons rfl Change_.f0 rfl V.int (.cons rfl Change_.f1 rfl V.bool .nil)) (λ u5 h12=>?_))))
   refine op (OpS.lit (r:=Change_.rep) (f:=true) h12 Tryz.underlying191 ti288 rfl rfl rfl rfl rfl (.cons rfl (V.at .z) .nil) rfl rfl (λ u6 w5 h13=>?_))
   obtain ⟨x3,e11,hF⟩:=Qa hF
   refine op (OpS.app (f':=true) h13 .z Tryz.underlying191 ti288 rfl rfl rfl rfl rfl rfl rfl (V.at .z) (.inr Change_.pure) e11 (λ u7 w6 h14=>?_))
   refine ga rfl (nil (Run.endBlock (Run.reg (gb rfl (gm rfl (nil (Run.slim [(1,.int .u8 a1),(9,.int .u8 y2),(10,u7),(27,.int .i64 (IntKind.i64.wrap (s1.1+1)))] ⟨rfl,rfl,rfl,rfl,trivial⟩ ?_)))))))
   exact hk1 ((IntKind.i64.wrap (s1.1+1)),x3) _ _ ⟨u7,rfl,(h14.facts .nil).picks (.cons .z .nil)⟩ hF
  refine Run.skip (Run.endBlock (Run.reg (gb rfl (gm rfl (nil (Run.slim [(1,.int .u8 a1),(9,.int .u8 y2),(10,u4),(27,.int .i64 (IntKind.i64.wrap (s1.1+1)))] ⟨rfl,rfl,rfl,rfl,trivial⟩ ?_))))))
  exact hk1 ((IntKind.i64.wrap (s1.1+1)),s1.2) _ _ ⟨u4,rfl,(h11.facts .nil).picks (.cons .z .nil)⟩ hF
 refine Run.exit rfl ?_
 refine sr (gm rfl (gm rfl (ga rfl (ga rfl (ga rfl (nil (Run.retP rfl (.tmp rfl (.tmp rfl (.tmp rfl .nil))) ?_)))))))
 cases hF
 exact Post.mk' ⟨u4,rfl,rfl,rfl,rfl⟩ (h11.picks (.cons .z .nil)) .nil
set_option maxHeartbeats 8000000 in set_option maxRecDepth 20000 in
theorem Qjp {fuel:Nat} {a0:Qd} {a1:Int} {a2:Sample_} {y:(List Change_)×Int×Qd} (hF:Qcc fuel a0 a1 a2=some y) {w:World} {v0 v0_0 v0_1 v2:Value} :
  Spec Tryz.prog 81 [v0,.int .i64 a1,v2].toArray w [(false,.val Sample_.rep v2 a2)] [(false,.box 184 (Qd.repW v0_0 v0_1) v0 a0),(false,.slice 188 Filter_.rep v0_0 a0.filters),(false,.slice 49 (Rep.int .u16) v0_1 a0.states)] (λ v Γr Ωr Ωo=>∃ u0 w0_0 w0_1:Value,v=.tuple #[u0,.int .u8 y.2.1]∧Γr=[(true,.val (Rep.slice Change_.rep) u0 y.1)]∧Ωr=[]∧Ωo=[(false,.box 184 (Qd.repW w0_0 w0_1) v0 y.2.2),(false,(.slice 188 Filter_.rep w0_0 y.2.2.filters)),(false,(.slice 49 (Rep.int .u16) w0_1 y.2.2.states))]):=by
 refine Spec.of (L:=[(0,v0),(1,.int .i64 a1),(2,v2)]) Tryz.func81 rfl ⟨rfl,rfl,rfl,trivial⟩ rfl (λ e h=>?_)
 unfold Qcc at hF
 refine sr (op (OpS.boxF h rfl rfl rfl (V.at .z) (λ u1 w1 h1=>?_)))
 refine ga rfl (ga rfl (nil (sr (gm rfl (op (OpS.nchk h1 (.s .z) rfl rfl rfl ?_))))))
 refine op (OpS.fbox (o3:=0) h1 (.s .z) PA.z Qhm rfl rfl rfl rfl ?_)
 refine op (OpS.loadB (fr:=(Rep.slice Sensor_.rep)) h1 (.s .z) PA.a (GetS.ok (GetS.iso _ (GetS.here GetS.id))) (Ty.like ty27 (by rfl) (by rfl)) rfl rfl rfl (λ u2 h2=>?_))
 refine gm rfl ?_
 obtain ⟨x1,e1,hF⟩:=Qa hF
 refine op (OpS.iptr h2 Tryz.underlying27 ty74 rfl rfl rfl rfl (V.at .z) e1 (λ u3 h3=>?_))
 refine op (OpS.load h3 ty74 rfl rfl rfl .z (λ u4 h4=>?_))
 refine op (OpS.alloc h4 ti74 Sensor_.zr rfl rfl (λ u5 w2 h5=>?_))
 have h6:=(h5.pick .z).weak
 refine op (OpS.storeB (f':=false) h6 .z PA.z Put.id ty74 rfl rfl rfl (V.at .z) (.inr rfl) (λ w3 h7=>?_))
 refine nil (sr (ga rfl (nil (Run.seq (sr (op (OpS.fbox (o3:=6) h7 .z PA.z Qnn rfl rfl rfl rfl ?_)))))))
 refine op (OpS.loadBb h7 .z PA.a (Get.fld Sensor_.f5) ty4 rfl rfl rfl ?_)
 refine nil ?_
 refine Run.ite rfl hF (λ e2 hF=>?_) (λ e2 hF=>?_)
 ·refine Run.seq (sr (op (OpS.fbox (o3:=1) h7 (.s .z) PA.z Qob rfl rfl rfl rfl ?_)))
  refine op (OpS.loadBb h7 (.s .z) PA.a (Get.fld Sample_.f1) ty4 rfl rfl rfl ?_)
  refine nil ?_
  refine Run.join (σ:=((List Change_)×Qd)) (λ s_ L_ w_=>∃ u0_:Value,L_=[(9,u0_)]∧St e w_ [(true,.val (Rep.slice Change_.rep) u0_ s_.1)] [(false,.box 184 (Qd.repW v0_0 v0_1) v0 s_.2),(false,.slice 188 Filter_.rep v0_0 s_.2.filters),(false,.slice 49 (Rep.int .u16) v0_1 s_.2.states)]) hF (λ s1 _ w4 hI hF=>?_) (λ j1 hj1 hF=>?_)
  ·obtain ⟨u6,rfl,h8⟩:=hI
   refine sr (gm rfl (ga rfl (ga rfl (nil (Run.retP rfl (.tmp rfl (.tmp rfl .nil)) ?_)))))
   cases hF
   exact Post.mk' ⟨u6,v0_0,v0_1,rfl,rfl,rfl,rfl⟩ (h8.picks (.cons .z (.cons .z (.cons .z .nil)))) (.val (V.at .z) .nil)
  refine Run.ite rfl hF (λ e3 hF=>?_) (λ e3 hF=>?_)
  ·refine Run.slim [(8,u5),(5,u1),(0,v0),(1,.int .i64 a1)] ⟨rfl,rfl,rfl,rfl,trivial⟩ ?_
   have h9:=h7.picks (.cons .z (.cons .z (.cons .z (.cons (.s .z) (.cons .z .nil)))))
   obtain ⟨x2,e4,hF⟩:=Qa hF
   obtain ⟨y1,e5,hF⟩:=Qa hF
   obtain ⟨d1,e6,hF⟩:=Qh hF
   refine Run.drawV (Ωs:=[(false,.slice 188 Filter_.rep v0_0 a0.filters)]) [.k 26 v0,.kr 27 v0 [2],.kr 28 (padd v0 3) [2],.kr 29 v0_1 [2],.k 30 (.int .i64 a1),.fr 31 (λ u_=>[(false,.val Sensor_.rep u_ x1)]) [0],.k 32 v0,.kr 33 v0 [2],.kr 34 (padd v0 3) [2],.kr 35 v0_1 [2],.k 36 (.int .i64 a1),⟨some 37,some ((padd (sp v0_1) ((a1:Int).toNat*(Rep.int .u16).n))),λ _=>[],λ ds_ u_=>[],[],[(3,[21,11])],none⟩,⟨some 38,some (.int .u16 x2),λ _=>[],λ ds_ u_=>[],[],[(3,[21,12])],none⟩,.kr 39 (padd u1 3) [1],.kr 40 (.int .u16 a2.States) [1],.f 41 (λ u_=>[(true,.eqv u_ (.tuple #[.int .u16 y1.1,(tcomp u_ 1),.int .i64 y1.2.2])),(true,.val (Rep.slice Change_.rep) (tcomp u_ 1) y1.2.1)]),.f 25 (λ u_=>[(true,.eqv u_ (.tuple #[.int .u16 y1.1,(tcomp u_ 1),.int .i64 y1.2.2])),(true,.val (Rep.slice Change_.rep) (tcomp u_ 1) y1.2.1)]),.k 42 (.int .u16 y1.1),.f 43 (λ u_=>[(true,.val (Rep.slice Change_.rep) u_ y1.2.1)]),.k 44 (.int .i64 y1.2.2),⟨some 45,some ((padd (sp v0_1) ((a1:Int).toNat*(Rep.int .u16).n))),λ _=>[],λ ds_ u_=>[],[],[(3,[21,20])],none⟩,⟨none,some undef,λ _=>[],λ ds_ u_=>[(false,.slice 49 (Rep.int .u16) v0_1 d1)],[3],[],none⟩,.f 9 (λ u_=>[(true,.val (Rep.slice Change_.rep) u_ y1.2.1)])] [[],[0],[1],[2],[],[],[],[6],[7],[8],[],[9,10],[11],[],[13],[5,12,14],[15],[16],[16],[16],[3,4],[20,17],[18]] [[(false,.box 74 Sensor_.rep u5 x1)],[(false,.box 93 Sample_.rep u1 a2)],[(false,.box 184 (Qd.repW v0_0 v0_1) v0 a0)],[(false,.slice 49 (Rep.int .u16) v0_1 a0.states)]] [0,1,2,4,5,6,7,8,9,10,11,12,13,14,15,16,17,18,19,20,21,22,23,24,25,26] Qi rfl rfl rfl h9 (.cons ?_ (.cons ?_ (.cons ?_ (.cons ?_ (.cons ?_ (.cons ?_ (.cons ?_ (.cons ?_ (.cons ?_ (.cons ?_ (.cons ?_ (.cons ?_ (.cons ?_ (.cons ?_ (.cons ?_ (.cons ?_ (.cons ?_ (.cons ?_ (.cons ?_ (.cons ?_ (.cons ?_ (.cons ?_ (.cons ?_ .nil))))))))))))))))))))))) (λ q1 w hq1 h=>?_)
   ·intro q1 w Γx Ωx h
    refine OpS.mv rfl rfl rfl ?_
    exact du h
   ·intro q1 w Γx Ωx h
    refine OpS.nchk h .z rfl rfl rfl ?_
    exact du h
   ·intro q1 w Γx Ωx h
    refine OpS.fbox (o3:=3) h .z PA.z Qjb rfl rfl rfl rfl ?_
    exact du h
   ·intro q1 w Γx Ωx h
    refine OpS.loadR h .z PA.a (GetS.ok (GetS.iso _ (GetS.there (GetS.there (GetS.there (GetS.here GetS.id)))))) ty60 rfl rfl rfl rfl rfl ?_
    exact du h
   ·intro q1 w Γx Ωx h
    refine OpS.mv rfl rfl rfl ?_
    exact du h
   ·intro q1 w Γx Ωx h
    refine OpS.loadB h .z PA.z Get.id ty74 rfl rfl rfl (λ u h15=>?_)
    exact ⟨u,rfl,trivial,h15⟩
   ·intro q1 w Γx Ωx h
    refine OpS.mv rfl rfl rfl ?_
    exact du h
   ·intro q1 w Γx Ωx h
    refine OpS.nchk h .z rfl rfl rfl ?_
    exact du h
   ·intro q1 w Γx Ωx h
    refine OpS.fbox (o3:=3) h .z PA.z Qjb rfl rfl rfl rfl ?_
    exact du h
   ·intro q1 w Γx Ωx h
    refine OpS.loadR h .z PA.a (GetS.ok (GetS.iso _ (GetS.there (GetS.there (GetS.there (GetS.here GetS.id)))))) ty60 rfl rfl rfl rfl rfl ?_
    exact du h
   ·intro q1 w Γx Ωx h
    refine OpS.mv rfl rfl rfl ?_
    exact du h
   ·intro q1 w Γx Ωx h
    refine OpS.iown h .z Tryz.underlying60 ty49 rfl rfl rfl rfl e4 ?_
    exact du h
   ·intro q1 w Γx Ωx h
    refine OpS.loadOi h .z (Qnl e4) PA.a (Get.arr e4) ty49 rfl rfl rfl ?_
    exact du h
   ·intro q1 w Γx Ωx h
    refine OpS.fbox (o3:=3) h .z PA.z Qnw rfl rfl rfl rfl ?_
    exact du h
   ·intro q1 w Γx Ωx h
    refine OpS.loadBi h .z PA.a (Get.fld Sample_.f3) ty49 rfl rfl rfl ?_
    exact du h
   ·intro q1 w Γx Ωx h
    refine OpS.callP h Tryz.func150 rfl rfl rfl rfl (vs:=[(q1 5),.int .u16 x2,.int .u16 a2.States]) rfl (Qmm e5) (.cons (f:=false) (V.at .z) .nil) ?_
    rintro _ w7 _ _ _ ⟨u8,rfl,rfl,rfl,rfl⟩ h16
    have h17:=h16 rfl rfl
    simp only [ca,na] at h17
    have h18:=h17.freeze
    exact ⟨_,rfl,trivial,St.eqv rfl h18⟩
   ·intro q1 w Γx Ωx h
    refine OpS.mv rfl rfl rfl ?_
    exact ⟨_,rfl,trivial,((h.dup (.s .z)).dup (.s .z))⟩
   ·intro q1 w Γx Ωx h
    refine OpS.extT h .z rfl rfl rfl rfl ?_
    exact du h
   ·intro q1 w Γx Ωx h
    refine OpS.extT h .z rfl rfl rfl rfl ?_
    exact ⟨_,rfl,trivial,(h.dup (.s .z))⟩
   ·intro q1 w Γx Ωx h
    refine OpS.extT h .z rfl rfl rfl rfl ?_
    exact du h
   ·intro q1 w Γx Ωx h
    refine OpS.iown h .z Tryz.underlying60 ty49 rfl rfl rfl rfl e4 ?_
    exact du h
   ·intro q1 w Γx Ωx h
    refine OpS.storeO (f':=true) h .z (Qnl e4) PA.a (Put.of (Put.arr e4) e6) ty49 rfl rfl rfl V.int (.inr rfl) (λ w8 h19=>?_)
    exact ⟨undef,trivial,trivial,h19⟩
   ·intro q1 w Γx Ωx h
    refine OpS.as rfl rfl rfl ?_
    exact ⟨_,rfl,trivial,(h.dup .z)⟩
   have h20:=h
   refine nil (Run.slim [(9,(q1 22))] ⟨rfl,trivial⟩ ?_)
   have h21:=St.boxJ (r':=(Qd.repW v0_0 v0_1)) (x':={ a0 with states:=d1 }) (h20.pick (.s (.s .z))) (λ _ _ hs_=>(Jn.iso _ (Jn.prod Jn.refl (Jn.prod Jn.refl (Jn.prod Jn.same (Jn.prod Jn.same Jn.refl))))))
   have h22:=St.boxJ (r':=(Qd.repW v0_0 v0_1)) (x':={ { { a0 with states:=d1 } with filters:=a0.filters } with states:=d1 }) (h21.pick .z) (λ _ _ hs_=>(Jn.iso _ (Jn.prod Jn.refl (Jn.prod Jn.refl (Jn.prod Jn.same (Jn.prod Jn.same Jn.refl))))))
   refine Run.slim [(9,(q1 22))] ⟨rfl,trivial⟩ ?_
   exact hj1 (y1.2.1,{ { { a0 with states:=d1 } with filters:=a0.filters } with states:=d1 }) _ _ ⟨(q1 22),rfl,(h22.facts (.val (V.at (.s (.s (.s (.s (.s (.s .z))))))) .nil)).picks (.cons .z (.cons (.s (.s (.s .z))) (.cons (.s (.s .z)) .nil)))⟩ hF
  refine Run.skip (Run.slim [(9,.slice none 0 0)] ⟨rfl,trivial⟩ ?_)
  exact hj1 ([],a0) _ _ ⟨.slice none 0 0,rfl,(h7.facts (.val V.nil .nil)).picks (.cons (.s (.s .z)) (.cons (.s (.s .z)) (.cons (.s (.s .z)) .nil)))⟩ hF
 refine Run.skip (Run.seq ?_)
 obtain ⟨x3,e7,hF⟩:=Qa hF
 obtain ⟨y2,e8,hF⟩:=Qa hF
 obtain ⟨d2,e9,hF⟩:=Qh hF
 refine Run.drawV (Ωs:=[(false,.slice 49 (Rep.int .u16) v0_1 a0.states)]) [.k 48 v0,.kr 49 v0 [2],.kr 50 (padd v0 2) [2],.kr 51 v0_0 [2],.k 52 (.int .i64 a1),.fr 53 (λ u_=>[(false,.val Sensor_.rep u_ x1)]) [0],.k 54 v0,.kr 55 v0 [2],.kr 56 (padd v0 2) [2],.kr 57 v0_0 [2],.k 58 (.int .i64 a1),⟨some 59,some ((padd (sp v0_0) ((a1:Int).toNat*Filter_.rep.n))),λ _=>[],λ ds_ u_=>[],[],[(3,[22,11])],none⟩,⟨some 60,none,λ u_=>[(false,.val Filter_.rep u_ x3)],λ ds_ u_=>[],[],[(3,[22,12])],none⟩,.kr 61 (padd u1 2) [1],.kr 62 (.int .u8 a2.Raw) [1],.kr 63 (padd u1 1) [1],.kr 64 (.bool a2.OK) [1],.f 65 (λ u_=>[(true,.eqv u_ (.tuple #[(tcomp u_ 0),.int .i64 y2.2])),(true,.val Filter_.rep (tcomp u_ 0) y2.1)]),.f 47 (λ u_=>[(true,.eqv u_ (.tuple #[(tcomp u_ 0),.int .i64 y2.2])),(true,.val Filter_.rep (tcomp u_ 0) y2.1)]),.f 66 (λ u_=>[(true,.val Filter_.rep u_ y2.1)]),.k 67 (.int .i64 y2.2),⟨some 68,some ((padd (sp v0_0) ((a1:Int).toNat*Filter_.rep.n))),λ _=>[],λ ds_ u_=>[],[],[(3,[22,21])],none⟩,⟨none,some undef,λ _=>[],λ ds_ u_=>[(false,.slice 188 Filter_.rep v0_0 d2)],[3],[],none⟩] [[],[0],[1],[2],[],[],[],[6],[7],[8],[],[9,10],[11],[],[13],[],[15],[5,12,14,16],[17],[18],[18],[3,4],[21,19]] [[(false,.box 74 Sensor_.rep u5 x1)],[(false,.box 93 Sample_.rep u1 a2)],[(false,.box 184 (Qd.repW v0_0 v0_1) v0 a0)],[(false,.slice 188 Filter_.rep v0_0 a0.filters)]] [0,1,2,4,5,6,7,8,9,10,11,12,13,14,15,16,17,18,19,20,21,22,23,24,25,26] Qi rfl rfl rfl h7 (.cons ?_ (.cons ?_ (.cons ?_ (.cons ?_ (.cons ?_ (.cons ?_ (.cons ?_ (.cons ?_ (.cons ?_ (.cons ?_ (.cons ?_ (.cons ?_ (.cons ?_ (.cons ?_ (.cons ?_ (.cons ?_ (.cons ?_ (.cons ?_ (.cons ?_ (.cons ?_ (.cons ?_ (.cons ?_ (.cons ?_ .nil))))))))))))))))))))))) (λ q2 w hq2 h=>?_)
 ·intro q2 w Γx Ωx h
  refine OpS.mv rfl rfl rfl ?_
  exact du h
 ·intro q2 w Γx Ωx h
  refine OpS.nchk h .z rfl rfl rfl ?_
  exact du h
 ·intro q2 w Γx Ωx h
  refine OpS.fbox (o3:=2) h .z PA.z Qol rfl rfl rfl rfl ?_
  exact du h
 ·intro q2 w Γx Ωx h
  refine OpS.loadR h .z PA.a (GetS.ok (GetS.iso _ (GetS.there (GetS.there (GetS.here GetS.id))))) ty182 rfl rfl rfl rfl rfl ?_
  exact du h
 ·intro q2 w Γx Ωx h
  refine OpS.mv rfl rfl rfl ?_
  exact du h
 ·intro q2 w Γx Ωx h
  refine OpS.loadB h .z PA.z Get.id ty74 rfl rfl rfl (λ u h28=>?_)
  exact ⟨u,rfl,trivial,h28⟩
 ·intro q2 w Γx Ωx h
  refine OpS.mv rfl rfl rfl ?_
  exact du h
 ·intro q2 w Γx Ωx h
  refine OpS.nchk h .z rfl rfl rfl ?_
  exact du h
 ·intro q2 w Γx Ωx h
  refine OpS.fbox (o3:=2) h .z PA.z Qol rfl rfl rfl rfl ?_
  exact du h
 ·intro q2 w Γx Ωx h
  refine OpS.loadR h .z PA.a (GetS.ok (GetS.iso _ (GetS.there (GetS.there (GetS.here GetS.id))))) ty182 rfl rfl rfl rfl rfl ?_
  exact du h
 ·intro q2 w Γx Ωx h
  refine OpS.mv rfl rfl rfl ?_
  exact du h
 ·intro q2 w Γx Ωx h
  refine OpS.iown h .z Tryz.underlying182 ty188 rfl rfl rfl rfl e7 ?_
  exact du h
 ·intro q2 w Γx Ωx h
  refine OpS.loadO h .z (Qnl e7) PA.a (Get.arr e7) ty188 rfl rfl rfl (λ u h29=>?_)
  exact ⟨u,rfl,trivial,h29⟩
 ·intro q2 w Γx Ωx h
  refine OpS.fbox (o3:=2) h .z PA.z Qnx rfl rfl rfl rfl ?_
  exact du h
 ·intro q2 w Γx Ωx h
  refine OpS.loadBi h .z PA.a (Get.fld Sample_.f2) ty5 rfl rfl rfl ?_
  exact du h
 ·intro q2 w Γx Ωx h
  refine OpS.fbox (o3:=1) h .z PA.z Qob rfl rfl rfl rfl ?_
  exact du h
 ·intro q2 w Γx Ωx h
  refine OpS.loadBb h .z PA.a (Get.fld Sample_.f1) ty4 rfl rfl rfl ?_
  exact du h
 ·intro q2 w Γx Ωx h
  refine OpS.callP h Tryz.func151 rfl rfl rfl rfl (vs:=[(q2 5),(q2 12),.int .u8 a2.Raw,.bool a2.OK]) rfl (Qms e8) (.cons (f:=false) (V.at .z) (.cons (f:=false) (V.at (.s .z)) .nil)) ?_
  rintro _ w11 _ _ _ ⟨u10,rfl,rfl,rfl,rfl⟩ h30
  have h31:=h30 rfl rfl
  simp only [ca,na] at h31
  exact ⟨_,rfl,trivial,St.eqv rfl h31⟩
 ·intro q2 w Γx Ωx h
  refine OpS.mv rfl rfl rfl ?_
  exact ⟨_,rfl,trivial,((h.dup (.s .z)).dup (.s .z))⟩
 ·intro q2 w Γx Ωx h
  refine OpS.extT h .z rfl rfl rfl rfl ?_
  exact ⟨_,rfl,trivial,(h.dup (.s .z))⟩
 ·intro q2 w Γx Ωx h
  refine OpS.extT h .z rfl rfl rfl rfl ?_
  exact du h
 ·intro q2 w Γx Ωx h
  refine OpS.iown h .z Tryz.underlying182 ty188 rfl rfl rfl rfl e7 ?_
  exact du h
 ·intro q2 w Γx Ωx h
  refine OpS.storeO (f':=false) h .z (Qnl e7) PA.a (Put.of (Put.arr e7) e9) ty188 rfl rfl rfl (V.weak (V.at .z)) (.inr rfl) (λ w12 h32=>?_)
  exact ⟨undef,trivial,trivial,h32⟩
 have h33:=h
 refine nil (Run.slim [(8,u5),(0,v0),(1,.int .i64 a1)] ⟨rfl,rfl,rfl,trivial⟩ ?_)
 refine Run.seq ?_
 have h34:=h33.picks (.cons .z (.cons (.s .z) (.cons (.s .z) (.cons .z (.cons .z .nil)))))
 obtain ⟨x4,e10,hF⟩:=Qa hF
 obtain ⟨y3,e11,hF⟩:=Qa hF
 refine Run.drawV (Ωs:=[(false,.box 93 Sample_.rep u1 a2),(false,.slice 49 (Rep.int .u16) v0_1 a0.states)]) [.fr 70 (λ u_=>[(false,.val Sensor_.rep u_ x1)]) [0],.k 71 v0,.kr 72 v0 [1],.kr 73 (padd v0 2) [1],.kr 74 v0_0 [1],.k 75 (.int .i64 a1),.kr 76 (padd (sp v0_0) ((a1:Int).toNat*Filter_.rep.n)) [2],.fr 77 (λ u_=>[(false,.val Filter_.rep u_ x4)]) [2],.k 78 (.tuple #[.int .u8 y3.1,.bool y3.2]),.k 69 (.tuple #[.int .u8 y3.1,.bool y3.2]),.k 79 (.int .u8 y3.1),.k 80 (.bool y3.2),.k 10 (.int .u8 y3.1)] [[],[],[1],[2],[3],[],[4,5],[6],[0,7],[8],[9],[9],[10]] [[(false,.box 74 Sensor_.rep u5 x1)],[(false,.box 184 (Qd.repW v0_0 v0_1) v0 a0)],[(false,.slice 188 Filter_.rep v0_0 d2)]] [0,1,2,3,4,5,6,7,8,9,10,11,12,13,14,15] Qi rfl rfl rfl h34 (.cons ?_ (.cons ?_ (.cons ?_ (.cons ?_ (.cons ?_ (.cons ?_ (.cons ?_ (.cons ?_ (.cons ?_ (.cons ?_ (.cons ?_ (.cons ?_ (.cons ?_ .nil))))))))))))) (λ q3 w hq3 h=>?_)
 ·intro q3 w Γx Ωx h
  refine OpS.loadB h .z PA.z Get.id ty74 rfl rfl rfl (λ u h39=>?_)
  exact ⟨u,rfl,trivial,h39⟩
 ·intro q3 w Γx Ωx h
  refine OpS.mv rfl rfl rfl ?_
  exact du h
 ·intro q3 w Γx Ωx h
  refine OpS.nchk h .z rfl rfl rfl ?_
  exact du h
 ·intro q3 w Γx Ωx h
  refine OpS.fbox (o3:=2) h .z PA.z Qol rfl rfl rfl rfl ?_
  exact du h
 ·intro q3 w Γx Ωx h
  refine OpS.loadR h .z PA.a (GetS.ok (GetS.iso _ (GetS.there (GetS.there (GetS.here GetS.id))))) ty182 rfl rfl rfl rfl rfl ?_
  exact du h
 ·intro q3 w Γx Ωx h
  refine OpS.mv rfl rfl rfl ?_
  exact du h
 ·intro q3 w Γx Ωx h
  refine OpS.iown h .z Tryz.underlying182 ty188 rfl rfl rfl rfl e10 ?_
  exact du h
 ·intro q3 w Γx Ωx h
  refine OpS.loadO h .z (Qnl e10) PA.a (Get.arr e10) ty188 rfl rfl rfl (λ u h40=>?_)
  exact ⟨u,rfl,trivial,h40⟩
 ·intro q3 w Γx Ωx h
  refine OpS.callP h Tryz.func100 rfl rfl rfl rfl (vs:=[(q3 0),(q3 7)]) rfl (Qlh e11) (.cons (f:=false) (V.at .z) (.cons (f:=false) (V.at (.s .z)) .nil)) ?_
  rintro _ w14 _ _ _ ⟨rfl,rfl,rfl,rfl⟩ h41
  have h42:=h41 rfl rfl
  simp only [ca,na] at h42
  exact ⟨undef,rfl,trivial,h42⟩
 ·intro q3 w Γx Ωx h
  refine OpS.mv rfl rfl rfl ?_
  exact du h
 ·intro q3 w Γx Ωx h
  refine OpS.ext rfl rfl rfl rfl ?_
  exact du h
 ·intro q3 w Γx Ωx h
  refine OpS.ext rfl rfl rfl rfl ?_
  exact du h
 ·intro q3 w Γx Ωx h
  refine OpS.as rfl rfl rfl ?_
  exact du h
 have h43:=h
 refine ga rfl (nil (Run.seq (sr (gm rfl (op (OpS.not rfl rfl rfl ?_))))))
 refine nil ?_
 refine Run.ite rfl hF (λ e12 hF=>?_) (λ e12 hF=>?_)
 ·refine sr (ga rfl (ga rfl (nil ?_)))
  have h44:=St.boxJ (r':=(Qd.repW v0_0 v0_1)) (x':={ { a0 with filters:=d2 } with states:=a0.states }) (h43.pick (.s .z)) (λ _ _ hs_=>(Jn.iso _ (Jn.prod Jn.refl (Jn.prod Jn.refl (Jn.prod Jn.same (Jn.prod Jn.same Jn.refl))))))
  refine Run.retP rfl (.tmp rfl (.tmp rfl .nil)) ?_
  cases hF
  exact Post.mk' ⟨.slice none 0 0,v0_0,v0_1,rfl,rfl,rfl,rfl⟩ (h44.picks (.cons .z (.cons (.s .z) (.cons (.s (.s .z)) .nil)))) (.val V.nil .nil)
 refine Run.skip (Run.seq ?_)
 have h45:=h43.picks (.cons .z (.cons .z (.cons (.s (.s .z)) (.cons .z (.cons .z .nil)))))
 obtain ⟨x5,e13,hF⟩:=Qa hF
 obtain ⟨y4,e14,hF⟩:=Qa hF
 refine Run.drawV (Ωs:=[(false,.slice 188 Filter_.rep v0_0 d2),(false,.box 93 Sample_.rep u1 a2)]) [.fr 84 (λ u_=>[(false,.val Sensor_.rep u_ x1)]) [0],.k 85 v0,.kr 86 v0 [1],.kr 87 (padd v0 3) [1],.kr 88 v0_1 [1],.k 89 (.int .i64 a1),.kr 90 (padd (sp v0_1) ((a1:Int).toNat*(Rep.int .u16).n)) [2],.kr 91 (.int .u16 x5) [2],.k 92 (.int .u8 (IntKind.u8.wrap x5)),.k 93 (.int .u8 y3.1),.f 94 (λ u_=>[(true,.eqv u_ (.tuple #[.int .u8 y4.1,(tcomp u_ 1),.int .i64 y4.2.2])),(true,.val (Rep.slice Change_.rep) (tcomp u_ 1) y4.2.1)]),.f 83 (λ u_=>[(true,.eqv u_ (.tuple #[.int .u8 y4.1,(tcomp u_ 1),.int .i64 y4.2.2])),(true,.val (Rep.slice Change_.rep) (tcomp u_ 1) y4.2.1)]),.k 95 (.int .u8 y4.1),.f 96 (λ u_=>[(true,.val (Rep.slice Change_.rep) u_ y4.2.1)]),.k 97 (.int .i64 y4.2.2),.k 12 (.int .u8 y4.1),.f 9 (λ u_=>[(true,.val (Rep.slice Change_.rep) u_ y4.2.1)])] [[],[],[1],[2],[3],[],[4,5],[6],[7],[],[0,8,9],[10],[11],[11],[11],[12],[13]] [[(false,.box 74 Sensor_.rep u5 x1)],[(false,.box 184 (Qd.repW v0_0 v0_1) v0 a0)],[(false,.slice 49 (Rep.int .u16) v0_1 a0.states)]] [0,1,2,3,4,5,6,7,8,9,10,11,12,13,14,15,16,17,18,19] Qi rfl rfl rfl h45 (.cons ?_ (.cons ?_ (.cons ?_ (.cons ?_ (.cons ?_ (.cons ?_ (.cons ?_ (.cons ?_ (.cons ?_ (.cons ?_ (.cons ?_ (.cons ?_ (.cons ?_ (.cons ?_ (.cons ?_ (.cons ?_ (.cons ?_ .nil))))))))))))))))) (λ q4 w hq4 h=>?_)
 ·intro q4 w Γx Ωx h
  refine OpS.loadB h .z PA.z Get.id ty74 rfl rfl rfl (λ u h50=>?_)
  exact ⟨u,rfl,trivial,h50⟩
 ·intro q4 w Γx Ωx h
  refine OpS.mv rfl rfl rfl ?_
  exact du h
 ·intro q4 w Γx Ωx h
  refine OpS.nchk h .z rfl rfl rfl ?_
  exact du h
 ·intro q4 w Γx Ωx h
  refine OpS.fbox (o3:=3) h .z PA.z Qjb rfl rfl rfl rfl ?_
  exact du h
 ·intro q4 w Γx Ωx h
  refine OpS.loadR h .z PA.a (GetS.ok (GetS.iso _ (GetS.there (GetS.there (GetS.there (GetS.here GetS.id)))))) ty60 rfl rfl rfl rfl rfl ?_
  exact du h
 ·intro q4 w Γx Ωx h
  refine OpS.mv rfl rfl rfl ?_
  exact du h
 ·intro q4 w Γx Ωx h
  refine OpS.iown h .z Tryz.underlying60 ty49 rfl rfl rfl rfl e13 ?_
  exact du h
 ·intro q4 w Γx Ωx h
  refine OpS.loadOi h .z (Qnl e13) PA.a (Get.arr e13) ty49 rfl rfl rfl ?_
  exact du h
 ·intro q4 w Γx Ωx h
  refine OpS.conv Tryz.underlying49 Tryz.underlying5 rfl rfl rfl ?_
  exact du h
 ·intro q4 w Γx Ωx h
  refine OpS.mv rfl rfl rfl ?_
  exact du h
 ·intro q4 w Γx Ωx h
  refine OpS.callP h Tryz.func152 rfl rfl rfl rfl (vs:=[(q4 0),.int .u8 (IntKind.u8.wrap x5),.int .u8 y3.1]) rfl (Qme e14) (.cons (f:=false) (V.at .z) .nil) ?_
  rintro _ w16 _ _ _ ⟨u12,rfl,rfl,rfl,rfl⟩ h51
  have h52:=h51 rfl rfl
  simp only [ca,na] at h52
  have h53:=h52.freeze
  exact ⟨_,rfl,trivial,St.eqv rfl h53⟩
 ·intro q4 w Γx Ωx h
  refine OpS.mv rfl rfl rfl ?_
  exact ⟨_,rfl,trivial,((h.dup (.s .z)).dup (.s .z))⟩
 ·intro q4 w Γx Ωx h
  refine OpS.extT h .z rfl rfl rfl rfl ?_
  exact du h
 ·intro q4 w Γx Ωx h
  refine OpS.extT h .z rfl rfl rfl rfl ?_
  exact ⟨_,rfl,trivial,(h.dup (.s .z))⟩
 ·intro q4 w Γx Ωx h
  refine OpS.extT h .z rfl rfl rfl rfl ?_
  exact du h
 ·intro q4 w Γx Ωx h
  refine OpS.as rfl rfl rfl ?_
  exact du h
 ·intro q4 w Γx Ωx h
  refine OpS.as rfl rfl rfl ?_
  exact ⟨_,rfl,trivial,(h.dup .z)⟩
 have h54:=h
 refine ga rfl (nil (Run.slim [(12,.int .u8 y4.1),(9,(q4 16)),(10,.int .u8 y3.1),(0,v0),(1,.int .i64 a1)] ⟨rfl,rfl,rfl,rfl,rfl,trivial⟩ ?_))
 refine sr (gm rfl (op (OpS.nchk h54 (.s .z) rfl rfl rfl ?_)))
 refine op (OpS.fbox (o3:=3) h54 (.s .z) PA.z Qjb rfl rfl rfl rfl ?_)
 refine op (OpS.loadR h54 (.s .z) PA.a (GetS.ok (GetS.iso _ (GetS.there (GetS.there (GetS.there (GetS.here GetS.id)))))) ty60 rfl rfl rfl rfl rfl ?_)
 refine gm rfl (gm rfl (op (OpS.conv Tryz.underlying5 Tryz.underlying49 rfl rfl rfl ?_)))
 obtain ⟨x6,e15,hF⟩:=Qa hF
 refine op (OpS.iown h54 (.s (.s .z)) Tryz.underlying60 ty49 rfl rfl rfl rfl e15 ?_)
 obtain ⟨d3,e16,hF⟩:=Qh hF
 refine op (OpS.storeO (f':=true) h54 (.s (.s .z)) (Qnl e15) PA.a (Put.of (Put.arr e15) e16) ty49 rfl rfl rfl V.int (.inr rfl) (λ w17 h55=>?_))
 refine nil (sr (gm rfl (gm rfl (ga rfl (ga rfl (nil ?_))))))
 have h56:=St.boxJ (r':=(Qd.repW v0_0 v0_1)) (x':={ { a0 with filters:=d2 } with states:=d3 }) (h55.pick (.s (.s .z))) (λ _ _ hs_=>(Jn.iso _ (Jn.prod Jn.refl (Jn.prod Jn.refl (Jn.prod Jn.same (Jn.prod Jn.same Jn.refl))))))
 refine Run.retP rfl (.tmp rfl (.tmp rfl .nil)) ?_
 cases hF
 exact Post.mk' ⟨(q4 16),v0_0,v0_1,rfl,rfl,rfl,rfl⟩ (h56.picks (.cons .z (.cons (.s (.s .z)) (.cons .z .nil)))) (.val (V.at (.s (.s (.s (.s (.s (.s .z))))))) .nil)
theorem Qnj {fuel:Nat} {a0:Int} {a1:Int} {a2:Int} {a3:Bool} {y:Event_×Int} (hF:Qgl fuel a0 a1 a2 a3=some y) {w:World} :
  Spec Tryz.prog 153 [.int .u8 a0,.int .u8 a1,.int .i64 a2,.bool a3].toArray w [] [] (λ v Γr Ωr Ωo=>∃ u0:Value,v=.tuple #[u0,.int .i64 y.2]∧Γr=[(true,.val Event_.rep u0 y.1)]∧Ωr=[]∧Ωo=[]):=by
 refine Spec.of (L:=[(0,.int .u8 a0),(1,.int .u8 a1),(2,.int .i64 a2),(3,.bool a3)]) Tryz.func153 rfl ⟨rfl,rfl,rfl,rfl,trivial⟩ rfl (λ e h=>?_)
 unfold Qgl at hF
 refine sr (op (OpS.alloc h ti55 Event_.zr rfl rfl (λ u1 w1 h1=>?_)))
 refine ga rfl (nil (Run.seq (sr (gm rfl (gb rfl (gm rfl ?_))))))
 refine RunL.join (σ:=Bool) (λ s_ L_ w_=>L_=[(0,.int .u8 a0),(1,.int .u8 a1),(2,.int .i64 a2),(3,.bool a3),(8,u1),(15,.bool s_)]∧St e w_ [] [(true,.box 55 Event_.rep u1 Event_.z)]) hF (λ s1 _ w2 hI hF=>?_) (λ j1 hj1 hF=>?_)
 ·obtain ⟨rfl,h2⟩:=hI
  refine Run.ite rfl hF (λ e1 hF=>?_) (λ e1 hF=>?_)
  ·refine sr (op (OpS.build (f:=true) (x':=Event_.z) h2 pl55 ti55 Event_.zr rfl rfl rfl .nil (λ u2 h3=>?_)))
   refine op (OpS.storeB (f':=true) h3 .z PA.z Put.id ty55 rfl rfl rfl (V.at .z) (.inl rfl) (λ w3 h4=>?_))
   refine ga rfl (nil ?_)
   obtain ⟨u3,hu1,h5⟩:=Qaq h4 .z ty55
   refine Run.retP rfl (.cell rfl hu1 (.tmp rfl .nil)) ?_
   cases hF
   exact Post.mk' ⟨u3,rfl,rfl,rfl,rfl⟩ (h5.picks .nil) (.val (V.at .z) .nil)
  refine Run.skip (sr (gm rfl (gm rfl (gm rfl (op (OpS.not rfl rfl rfl ?_))))))
  refine gm rfl (op (OpS.conv Tryz.underlying3 Tryz.underlying5 rfl rfl rfl ?_))
  refine op (OpS.buildA (f:=true) (r:=(Rep.int .u8)) h2 Tryz.underlying53 ti5 rfl ti53 rfl rfl rfl (.cons rfl V.int (.cons rfl V.int (.cons rfl V.int .nil))) rfl (λ u4 h6=>?_))
  refine op (OpS.build (f:=true) (x':=(⟨0,0,32,a0,a1,111,!a3,[(IntKind.u8.wrap a2),255,255]⟩:Event_)) h6 pl55 ti55 Event_.zr rfl rfl rfl (.cons rfl Event_.f2 rfl V.int (.cons rfl Event_.f3 rfl V.int (.cons rfl Event_.f4 rfl V.int (.cons rfl Event_.f5 rfl V.int (.cons rfl Event_.f6 rfl V.bool (.cons rfl Event_.f7 rfl (V.at .z) .nil)))))) (λ u5 h7=>?_))
  refine op (OpS.storeB (f':=true) h7 .z PA.z Put.id ty55 rfl rfl rfl (V.at .z) (.inl rfl) (λ w4 h8=>?_))
  refine ga rfl (nil ?_)
  obtain ⟨u6,hu2,h9⟩:=Qaq h8 .z ty55
  refine Run.retP rfl (.cell rfl hu2 (.tmp rfl .nil)) ?_
  cases hF
  exact Post.mk' ⟨u6,rfl,rfl,rfl,rfl⟩ (h9.picks .nil) (.val (V.at .z) .nil)
 refine RunL.caseb hF (λ e2 hF=>?_) (λ e2 hF=>?_)
 ·refine gp rfl (gp rfl (gk rfl (nil (Run.slim [(0,.int .u8 a0),(1,.int .u8 a1),(2,.int .i64 a2),(3,.bool a3),(8,u1),(15,.bool true)] ⟨rfl,rfl,rfl,rfl,rfl,rfl,trivial⟩ ?_))))
  exact hj1 (true) _ _ ⟨rfl,(h1.facts .nil).picks (.cons .z .nil)⟩ hF
 refine gm rfl (gb rfl (gk rfl (nil (Run.slim [(0,.int .u8 a0),(1,.int .u8 a1),(2,.int .i64 a2),(3,.bool a3),(8,u1),(15,.bool (decide (a2>14)))] ⟨rfl,rfl,rfl,rfl,rfl,rfl,trivial⟩ ?_))))
 exact hj1 (decide (a2>14)) _ _ ⟨rfl,(h1.facts .nil).picks (.cons .z .nil)⟩ hF
theorem Qlp {fuel:Nat} {a0:Int} {a1:Int} {a2:Int} {a3:Bool} {a4:Int} {a5:Int} {y:Event_×Int} (hF:Qei fuel a0 a1 a2 a3 a4 a5=some y) {w:World} :
  Spec Tryz.prog 154 [.int .u8 a0,.int .u8 a1,.int .i64 a2,.bool a3,.int .u8 a4,.int .u8 a5].toArray w [GqC] [] (λ v Γr Ωr Ωo=>∃ u0:Value,v=.tuple #[u0,.int .i64 y.2]∧Γr=[(true,.val Event_.rep u0 y.1)]∧Ωr=[]∧Ωo=[]):=by
 refine Spec.of (L:=[(0,.int .u8 a0),(1,.int .u8 a1),(2,.int .i64 a2),(3,.bool a3),(4,.int .u8 a4),(5,.int .u8 a5)]) Tryz.func154 rfl ⟨rfl,rfl,rfl,rfl,rfl,rfl,trivial⟩ rfl (λ e h=>?_)
 unfold Qei at hF
 refine sr (op (OpS.alloc h ti55 Event_.zr rfl rfl (λ u1 w1 h1=>?_)))
 refine ga rfl (nil (Run.seq (sr (gm rfl (gb rfl (gm rfl ?_))))))
 refine RunL.join (σ:=Bool) (λ s_ L_ w_=>L_=[(0,.int .u8 a0),(1,.int .u8 a1),(2,.int .i64 a2),(3,.bool a3),(4,.int .u8 a4),(5,.int .u8 a5),(12,u1),(19,.bool s_)]∧St e w_ [GqC] [(true,.box 55 Event_.rep u1 Event_.z)]) hF (λ s1 _ w2 hI hF=>?_) (λ j1 hj1 hF=>?_)
 ·obtain ⟨rfl,h2⟩:=hI
  refine Run.ite rfl hF (λ e1 hF=>?_) (λ e1 hF=>?_)
  ·refine sr (op (OpS.build (f:=true) (x':=Event_.z) h2 pl55 ti55 Event_.zr rfl rfl rfl .nil (λ u2 h3=>?_)))
   refine op (OpS.storeB (f':=true) h3 .z PA.z Put.id ty55 rfl rfl rfl (V.at .z) (.inl rfl) (λ w3 h4=>?_))
   refine ga rfl (nil ?_)
   obtain ⟨u3,hu1,h5⟩:=Qaq h4 .z ty55
   refine Run.retP rfl (.cell rfl hu1 (.tmp rfl .nil)) ?_
   cases hF
   exact Post.mk' ⟨u3,rfl,rfl,rfl,rfl⟩ (h5.picks .nil) (.val (V.at .z) .nil)
  refine Run.skip (sr (gm rfl (gm rfl (gm rfl (op (OpS.not rfl rfl rfl ?_))))))
  refine gm rfl ?_
  obtain ⟨x1,e2,hF⟩:=Qa hF
  refine op (OpS.iarr h2 Tryz.underlying70 ty5 rfl rfl rfl rfl .z e2 (λ u4 h6=>?_))
  refine op (OpS.loadi h6 ty5 rfl rfl rfl .z ?_)
  refine gb rfl (gm rfl (gm rfl (op (OpS.buildA (f:=true) (r:=(Rep.int .u8)) h6 Tryz.underlying53 ti5 rfl ti53 rfl rfl rfl (.cons rfl V.int (.cons rfl V.int (.cons rfl V.int .nil))) rfl (λ u5 h7=>?_)))))
  refine op (OpS.build (f:=true) (x':=(⟨0,0,32,a0,a1,1,!a3,[(IntKind.u8.wrap (80+x1)),a4,a5]⟩:Event_)) h7 pl55 ti55 Event_.zr rfl rfl rfl (.cons rfl Event_.f2 rfl V.int (.cons rfl Event_.f3 rfl V.int (.cons rfl Event_.f4 rfl V.int (.cons rfl Event_.f5 rfl V.int (.cons rfl Event_.f6 rfl V.bool (.cons rfl Event_.f7 rfl (V.at .z) .nil)))))) (λ u6 h8=>?_))
  refine op (OpS.storeB (f':=true) h8 .z PA.z Put.id ty55 rfl rfl rfl (V.at .z) (.inl rfl) (λ w4 h9=>?_))
  refine ga rfl (nil ?_)
  obtain ⟨u7,hu2,h10⟩:=Qaq h9 .z ty55
  refine Run.retP rfl (.cell rfl hu2 (.tmp rfl .nil)) ?_
  cases hF
  exact Post.mk' ⟨u7,rfl,rfl,rfl,rfl⟩ (h10.picks .nil) (.val (V.at .z) .nil)
 refine RunL.caseb hF (λ e3 hF=>?_) (λ e3 hF=>?_)
 ·refine gp rfl (gp rfl (gk rfl (nil (Run.slim [(0,.int .u8 a0),(1,.int .u8 a1),(2,.int .i64 a2),(3,.bool a3),(4,.int .u8 a4),(5,.int .u8 a5),(12,u1),(19,.bool true)] ⟨rfl,rfl,rfl,rfl,rfl,rfl,rfl,rfl,trivial⟩ ?_))))
  exact hj1 (true) _ _ ⟨rfl,(h1.facts (.atm .z .nil)).picks (.cons .z .nil)⟩ hF
 refine gm rfl (gb rfl (gk rfl (nil (Run.slim [(0,.int .u8 a0),(1,.int .u8 a1),(2,.int .i64 a2),(3,.bool a3),(4,.int .u8 a4),(5,.int .u8 a5),(12,u1),(19,.bool (decide (a2≥6)))] ⟨rfl,rfl,rfl,rfl,rfl,rfl,rfl,rfl,trivial⟩ ?_))))
 exact hj1 (decide (a2≥6)) _ _ ⟨rfl,(h1.facts (.atm .z .nil)).picks (.cons .z .nil)⟩ hF
set_option maxHeartbeats 8000000 in set_option maxRecDepth 20000 in
theorem Qmg {fuel:Nat} {a0:Sensor_} {a1:List Change_} {a2:Int} {y:(List Event_)} (hF:Qes fuel a0 a1 a2=some y) {w:World} {v0 v1:Value} :
  Spec Tryz.prog 82 [v0,v1,.int .u8 a2].toArray w [(false,.val Sensor_.rep v0 a0),(false,.val (Rep.slice Change_.rep) v1 a1),GqC] [] (λ v Γr Ωr Ωo=>∃ u0:Value,v=u0∧Γr=[]∧Ωr=[(true,(.slice 55 Event_.rep u0 y))]∧Ωo=[]):=by
 refine Spec.of (L:=[(0,v0),(1,v1),(2,.int .u8 a2)]) Tryz.func82 rfl ⟨rfl,rfl,rfl,trivial⟩ rfl (λ e h=>?_)
 unfold Qes at hF
 refine sr (op (OpS.boxF h rfl rfl rfl (V.at .z) (λ u1 w1 h1=>?_)))
 refine ga rfl (nil (sr (ga rfl (nil (Run.seq (sr (gm rfl (op (OpS.len h1 Tryz.underlying191 rfl rfl rfl (V.at (.s .z)) ?_)))))))))
 refine gm rfl (nil (Run.block ?_))
 have h2:=St.nil 55 Event_.rep h1
 refine Run.slim [(2,.int .u8 a2),(3,u1),(7,(.slice none 0 0)),(12,v1),(13,.int .i64 (a1.length:Int)),(14,.int .i64 0)] ⟨rfl,rfl,rfl,rfl,rfl,rfl,trivial⟩ ?_
 refine Run.loopP (σ:=(Int×(List Event_))) (λ s_ L_ w_=>∃ u0_:Value,L_=[(2,.int .u8 a2),(3,u1),(7,u0_),(12,v1),(13,.int .i64 (a1.length:Int)),(14,.int .i64 s_.1)]∧St e w_ [(false,.val (Rep.slice Change_.rep) v1 a1),GqC] [(false,.box 74 Sensor_.rep u1 a0),(true,.slice 55 Event_.rep u0_ s_.2)]) hF ⟨(.slice none 0 0),rfl,(h2.facts (.atm (.s .z) (.atm (.s (.s .z)) .nil))).picks (.cons (.s .z) (.cons .z .nil))⟩ (λ k1 hk1 s1 _ w2 hI hF=>?_)
 obtain ⟨u2,rfl,h3⟩:=hI
 refine sr (gb rfl (nil (Run.seq ?_)))
 refine Run.ite rfl hF (λ e1 hF=>?_) (λ e1 hF=>?_)
 ·refine Run.skip (Run.seq (Run.block (sr ?_)))
  obtain ⟨x1,e2,hF⟩:=Qa hF
  refine op (OpS.iptr h3 Tryz.underlying191 ty288 rfl rfl rfl rfl (V.at .z) e2 (λ u3 h4=>?_))
  refine op (OpS.load h4 ty288 rfl rfl rfl .z (λ u4 h5=>?_))
  refine op (OpS.alloc h5 ti288 Change_.zr rfl rfl (λ u5 w3 h6=>?_))
  have h7:=(h6.pick .z).weak
  refine op (OpS.storeB (f':=false) h7 .z PA.z Put.id ty288 rfl rfl rfl (V.at .z) (.inr rfl) (λ w4 h8=>?_))
  refine nil (sr (op (OpS.fbox (o3:=25) h8 (.s .z) PA.z Qhs rfl rfl rfl rfl ?_)))
  refine op (OpS.loadBi h8 (.s .z) PA.a (Get.fld Sensor_.f12) ty49 rfl rfl rfl ?_)
  refine ga rfl (nil (Run.seq (sr (op (OpS.fbox (o3:=1) h8 .z PA.z Qpn rfl rfl rfl rfl ?_)))))
  refine op (OpS.loadBb h8 .z PA.a (Get.fld Change_.f1) ty4 rfl rfl rfl ?_)
  refine nil ?_
  refine Run.join (σ:=Int) (λ s_ L_ w_=>L_=[(2,.int .u8 a2),(3,u1),(7,u2),(9,u5),(10,.int .u16 s_),(12,v1),(13,.int .i64 (a1.length:Int)),(14,.int .i64 s1.1)]∧St e w_ [(false,.val (Rep.slice Change_.rep) v1 a1),GqC] [(false,.box 74 Sensor_.rep u1 a0),(false,.box 288 Change_.rep u5 x1),(true,.slice 55 Event_.rep u2 s1.2)]) hF (λ s2 _ w5 hI hF=>?_) (λ j1 hj1 hF=>?_)
  ·obtain ⟨rfl,h9⟩:=hI
   refine Run.seq (sr (gm rfl (op (OpS.fbox (o3:=0) h9 (.s .z) PA.z Qos rfl rfl rfl rfl ?_))))
   refine op (OpS.loadBi h9 (.s .z) PA.a (Get.fld Change_.f0) ty3 rfl rfl rfl ?_)
   obtain ⟨e3,hF⟩:=Qr hF
   refine op (OpS.shr rfl rfl rfl rfl e3 ?_)
   refine gb rfl (gb rfl (nil ?_))
   refine Run.ite rfl hF (λ e4 hF=>?_) (λ e4 hF=>?_)
   ·refine Run.exit rfl ?_
    refine Run.reg (gb rfl (gm rfl (nil (Run.slim [(2,.int .u8 a2),(3,u1),(7,u2),(12,v1),(13,.int .i64 (a1.length:Int)),(14,.int .i64 (IntKind.i64.wrap (s1.1+1)))] ⟨rfl,rfl,rfl,rfl,rfl,rfl,trivial⟩ ?_))))
    exact hk1 ((IntKind.i64.wrap (s1.1+1)),s1.2) _ _ ⟨u2,rfl,(h9.facts (.atm .z (.atm (.s .z) .nil))).picks (.cons .z (.cons (.s .z) .nil))⟩ hF
   refine Run.skip (sr (op (OpS.alloc h9 ti55 Event_.zr rfl rfl (λ u6 w6 h10=>?_))))
   refine nil (Run.seq (sr (op (OpS.fbox (o3:=6) h10 (.s .z) PA.z Qnn rfl rfl rfl rfl ?_))))
   refine op (OpS.loadBb h10 (.s .z) PA.a (Get.fld Sensor_.f5) ty4 rfl rfl rfl ?_)
   refine nil ?_
   refine Run.join (σ:=Event_) (λ s_ L_ w_=>L_=[(2,.int .u8 a2),(3,u1),(7,u2),(11,u6),(12,v1),(13,.int .i64 (a1.length:Int)),(14,.int .i64 s1.1)]∧St e w_ [(false,.val (Rep.slice Change_.rep) v1 a1),GqC] [(false,.box 74 Sensor_.rep u1 a0),(true,.box 55 Event_.rep u6 s_),(true,.slice 55 Event_.rep u2 s1.2)]) hF (λ s3 _ w7 hI hF=>?_) (λ j2 hj2 hF=>?_)
   ·obtain ⟨rfl,h11⟩:=hI
    refine Run.reg (gm rfl (op (OpS.loadB h11 (.s .z) PA.z Get.id ty55 rfl rfl rfl (λ u7 h12=>?_))))
    refine op (OpS.lit (r:=Event_.rep) (f:=true) h12 Tryz.underlying40 ti55 rfl rfl rfl rfl rfl (.cons rfl (V.at .z) .nil) rfl rfl (λ u8 w8 h13=>?_))
    obtain ⟨x2,e5,hF⟩:=Qa hF
    refine op (OpS.app (f':=true) h13 (.s (.s .z)) Tryz.underlying40 ti55 rfl rfl rfl rfl rfl rfl rfl (V.at .z) (.inr Event_.pure) e5 (λ u9 w9 h14=>?_))
    refine ga rfl (nil (Run.endBlock (Run.reg (gb rfl (gm rfl (nil (Run.slim [(2,.int .u8 a2),(3,u1),(7,u9),(12,v1),(13,.int .i64 (a1.length:Int)),(14,.int .i64 (IntKind.i64.wrap (s1.1+1)))] ⟨rfl,rfl,rfl,rfl,rfl,rfl,trivial⟩ ?_)))))))
    exact hk1 ((IntKind.i64.wrap (s1.1+1)),x2) _ _ ⟨u9,rfl,(h14.facts (.atm (.s (.s .z)) (.atm (.s (.s (.s .z))) .nil))).picks (.cons (.s .z) (.cons .z .nil))⟩ hF
   refine Run.ite rfl hF (λ e6 hF=>?_) (λ e6 hF=>?_)
   ·refine Run.reg (op (OpS.fbox (o3:=1) h10 (.s .z) PA.z Qog rfl rfl rfl rfl ?_))
    refine op (OpS.loadBi h10 (.s .z) PA.a (Get.fld Sensor_.f1) ty5 rfl rfl rfl ?_)
    refine op (OpS.fbox (o3:=0) h10 (.s .z) PA.z Qnr rfl rfl rfl rfl ?_)
    refine op (OpS.loadBi h10 (.s .z) PA.a (Get.fld Sensor_.f0) ty5 rfl rfl rfl ?_)
    refine op (OpS.fbox (o3:=0) h10 (.s (.s .z)) PA.z Qos rfl rfl rfl rfl ?_)
    refine op (OpS.loadBi h10 (.s (.s .z)) PA.a (Get.fld Change_.f0) ty3 rfl rfl rfl ?_)
    refine op (OpS.fbox (o3:=1) h10 (.s (.s .z)) PA.z Qpn rfl rfl rfl rfl ?_)
    refine op (OpS.loadBb h10 (.s (.s .z)) PA.a (Get.fld Change_.f1) ty4 rfl rfl rfl ?_)
    obtain ⟨y1,e7,hF⟩:=Qa hF
    refine op (OpS.callP h10 Tryz.func153 rfl rfl rfl rfl (vs:=[.int .u8 a0.Type_,.int .u8 a0.Number,.int .i64 x1.Index,.bool x1.Asserted]) rfl (Qnj e7) .nil ?_)
    rintro _ w10 _ _ _ ⟨u10,rfl,rfl,rfl,rfl⟩ h15
    have h16:=h15 rfl rfl
    simp only [ca,na] at h16
    refine gm rfl (op (OpS.ext rfl rfl rfl rfl ?_))
    refine op (OpS.ext rfl rfl rfl rfl ?_)
    refine op (OpS.storeB (f':=true) h16 .z PA.z Put.id ty55 rfl rfl rfl (V.at .z) (.inl rfl) (λ w11 h17=>?_))
    refine nil (Run.slim [(2,.int .u8 a2),(3,u1),(7,u2),(11,u6),(12,v1),(13,.int .i64 (a1.length:Int)),(14,.int .i64 s1.1)] ⟨rfl,rfl,rfl,rfl,rfl,rfl,rfl,trivial⟩ ?_)
    exact hj2 (y1.1) _ _ ⟨rfl,(h17.facts (.atm (.s .z) (.atm (.s (.s .z)) .nil))).picks (.cons (.s .z) (.cons .z (.cons (.s .z) .nil)))⟩ hF
   obtain ⟨x3,e8,hF⟩:=Qa hF
   obtain ⟨e9,hF⟩:=Qr hF
   obtain ⟨y2,e10,hF⟩:=Qa hF
   refine Run.drawV (Ωs:=[(true,.slice 55 Event_.rep u2 s1.2)]) [.kr 45 (padd u1 1) [1],.kr 46 (.int .u8 a0.Type_) [1],.kr 47 (padd u1 0) [1],.kr 48 (.int .u8 a0.Number) [1],.kr 49 (padd u5 0) [2],.kr 50 (.int .i64 x1.Index) [2],.kr 51 (padd u5 1) [2],.kr 52 (.bool x1.Asserted) [2],.k 53 (.int .u8 a2),.kr 54 (padd u5 0) [2],.kr 55 (.int .i64 x1.Index) [2],.kr 56 (padd u1 14) [1],.kr 57 (padd u1 15) [1],.kr 58 (padd u1 (15+(x1.Index:Int).toNat*(Rep.int .u8).n)) [1],.kr 59 (.int .u8 x3) [1],.f 60 (λ u_=>[(true,.eqv u_ (.tuple #[(tcomp u_ 0),.int .i64 y2.2])),(true,.val Event_.rep (tcomp u_ 0) y2.1)]),.f 44 (λ u_=>[(true,.eqv u_ (.tuple #[(tcomp u_ 0),.int .i64 y2.2])),(true,.val Event_.rep (tcomp u_ 0) y2.1)]),.f 61 (λ u_=>[(true,.val Event_.rep u_ y2.1)]),.k 62 (.int .i64 y2.2),⟨none,some undef,λ _=>[],λ ds_ u_=>[(true,.box 55 Event_.rep u6 y2.1)],[0],[],none⟩] [[],[0],[],[2],[],[4],[],[6],[],[],[9],[],[11],[12,10],[13],[1,3,5,7,8,14],[15],[16],[16],[17]] [[(true,.box 55 Event_.rep u6 Event_.z)],[(false,.box 74 Sensor_.rep u1 a0)],[(false,.box 288 Change_.rep u5 x1)]] [1,2,3,4,5,6,7,8,9,10,11,12,13,14,15,16,17,18,19,20,21,22] Qi rfl rfl rfl h10 (.cons ?_ (.cons ?_ (.cons ?_ (.cons ?_ (.cons ?_ (.cons ?_ (.cons ?_ (.cons ?_ (.cons ?_ (.cons ?_ (.cons ?_ (.cons ?_ (.cons ?_ (.cons ?_ (.cons ?_ (.cons ?_ (.cons ?_ (.cons ?_ (.cons ?_ (.cons ?_ .nil)))))))))))))))))))) (λ q1 w hq1 h=>?_)
   ·intro q1 w Γx Ωx h
    refine OpS.fbox (o3:=1) h .z PA.z Qog rfl rfl rfl rfl ?_
    exact du h
   ·intro q1 w Γx Ωx h
    refine OpS.loadBi h .z PA.a (Get.fld Sensor_.f1) ty5 rfl rfl rfl ?_
    exact du h
   ·intro q1 w Γx Ωx h
    refine OpS.fbox (o3:=0) h .z PA.z Qnr rfl rfl rfl rfl ?_
    exact du h
   ·intro q1 w Γx Ωx h
    refine OpS.loadBi h .z PA.a (Get.fld Sensor_.f0) ty5 rfl rfl rfl ?_
    exact du h
   ·intro q1 w Γx Ωx h
    refine OpS.fbox (o3:=0) h .z PA.z Qos rfl rfl rfl rfl ?_
    exact du h
   ·intro q1 w Γx Ωx h
    refine OpS.loadBi h .z PA.a (Get.fld Change_.f0) ty3 rfl rfl rfl ?_
    exact du h
   ·intro q1 w Γx Ωx h
    refine OpS.fbox (o3:=1) h .z PA.z Qpn rfl rfl rfl rfl ?_
    exact du h
   ·intro q1 w Γx Ωx h
    refine OpS.loadBb h .z PA.a (Get.fld Change_.f1) ty4 rfl rfl rfl ?_
    exact du h
   ·intro q1 w Γx Ωx h
    refine OpS.mv rfl rfl rfl ?_
    exact du h
   ·intro q1 w Γx Ωx h
    refine OpS.fbox (o3:=0) h .z PA.z Qos rfl rfl rfl rfl ?_
    exact du h
   ·intro q1 w Γx Ωx h
    refine OpS.loadBi h .z PA.a (Get.fld Change_.f0) ty3 rfl rfl rfl ?_
    exact du h
   ·intro q1 w Γx Ωx h
    refine OpS.fbox (o3:=14) h .z PA.z Qnm rfl rfl rfl rfl ?_
    exact du h
   ·intro q1 w Γx Ωx h
    refine OpS.fbox (o3:=15) h .z PA.a Qnz rfl rfl rfl rfl ?_
    exact du h
   ·intro q1 w Γx Ωx h
    refine OpS.ibox h .z PA.a Tryz.underlying70 ty5 (Nat.eq_of_beq_eq_true e9) rfl rfl rfl rfl e8 ?_
    exact du h
   ·intro q1 w Γx Ωx h
    refine OpS.loadBi h .z PA.a (Get.comp (Get.comp (Get.fld Sensor_.f7) (Get.fld Thresholds_.f1)) (Get.arr e8)) ty5 rfl rfl rfl ?_
    exact du h
   ·intro q1 w Γx Ωx h
    refine OpS.callP h Tryz.func154 rfl rfl rfl rfl (vs:=[.int .u8 a0.Type_,.int .u8 a0.Number,.int .i64 x1.Index,.bool x1.Asserted,.int .u8 a2,.int .u8 x3]) rfl (Qlp e10) (.ptr (.s .z) .nil) ?_
    rintro _ w14 _ _ _ ⟨u12,rfl,rfl,rfl,rfl⟩ h21
    have h22:=h21 rfl rfl
    simp only [ca,na] at h22
    exact ⟨_,rfl,trivial,St.eqv rfl h22⟩
   ·intro q1 w Γx Ωx h
    refine OpS.mv rfl rfl rfl ?_
    exact ⟨_,rfl,trivial,((h.dup (.s .z)).dup (.s .z))⟩
   ·intro q1 w Γx Ωx h
    refine OpS.extT h .z rfl rfl rfl rfl ?_
    exact ⟨_,rfl,trivial,(h.dup (.s .z))⟩
   ·intro q1 w Γx Ωx h
    refine OpS.extT h .z rfl rfl rfl rfl ?_
    exact du h
   ·intro q1 w Γx Ωx h
    refine OpS.storeB (f':=true) h .z PA.z Put.id ty55 rfl rfl rfl (V.at .z) (.inl rfl) (λ w15 h23=>?_)
    exact ⟨undef,trivial,trivial,h23⟩
   have h24:=h
   refine nil (Run.slim [(2,.int .u8 a2),(3,u1),(7,u2),(11,u6),(12,v1),(13,.int .i64 (a1.length:Int)),(14,.int .i64 s1.1)] ⟨rfl,rfl,rfl,rfl,rfl,rfl,rfl,trivial⟩ ?_)
   exact hj2 (y2.1) _ _ ⟨rfl,(h24.facts (.atm (.s (.s (.s (.s (.s .z))))) (.atm (.s (.s (.s (.s (.s (.s .z)))))) .nil))).picks (.cons .z (.cons (.s .z) (.cons (.s .z) .nil)))⟩ hF
  refine Run.ite rfl hF (λ e11 hF=>?_) (λ e11 hF=>?_)
  ·refine Run.reg (op (OpS.fbox (o3:=24) h8 (.s .z) PA.z Qhp rfl rfl rfl rfl ?_))
   refine op (OpS.loadBi h8 (.s .z) PA.a (Get.fld Sensor_.f11) ty49 rfl rfl rfl ?_)
   refine ga rfl (nil (Run.slim [(2,.int .u8 a2),(3,u1),(7,u2),(9,u5),(10,.int .u16 a0.Assert),(12,v1),(13,.int .i64 (a1.length:Int)),(14,.int .i64 s1.1)] ⟨rfl,rfl,rfl,rfl,rfl,rfl,rfl,rfl,trivial⟩ ?_))
   exact hj1 (a0.Assert) _ _ ⟨rfl,(h8.facts (.atm (.s (.s .z)) (.atm (.s (.s (.s .z))) .nil))).picks (.cons (.s .z) (.cons .z (.cons .z .nil)))⟩ hF
  refine Run.skip (Run.slim [(2,.int .u8 a2),(3,u1),(7,u2),(9,u5),(10,.int .u16 a0.Deassert),(12,v1),(13,.int .i64 (a1.length:Int)),(14,.int .i64 s1.1)] ⟨rfl,rfl,rfl,rfl,rfl,rfl,rfl,rfl,trivial⟩ ?_)
  exact hj1 (a0.Deassert) _ _ ⟨rfl,(h8.facts (.atm (.s (.s .z)) (.atm (.s (.s (.s .z))) .nil))).picks (.cons (.s .z) (.cons .z (.cons .z .nil)))⟩ hF
 refine Run.exit rfl ?_
 refine sr (gm rfl (ga rfl (nil (Run.retP rfl (.tmp rfl .nil) ?_))))
 cases hF
 exact Post.mk' ⟨u2,rfl,rfl,rfl,rfl⟩ (h3.picks (.cons (.s .z) .nil)) .nil
theorem Qhz {fuel:Nat} {a0:Sample_} {a1:Sensor_} {y:Bool} (hF:Qci fuel a0 a1=some y) {w:World} {v0 v1:Value} :
  Spec Tryz.prog 80 [v0,v1].toArray w [(false,.val Sample_.rep v0 a0),(false,.ptr Sensor_.rep v1 a1)] [] (λ v Γr Ωr Ωo=>v=.bool y∧Γr=[]∧Ωr=[]∧Ωo=[]):=by
 refine Spec.of (L:=[(0,v0),(1,v1)]) Tryz.func80 rfl ⟨rfl,rfl,trivial⟩ rfl (λ e h=>?_)
 unfold Qci at hF
 refine sr (op (OpS.boxF h rfl rfl rfl (V.at .z) (λ u1 w1 h1=>?_)))
 refine ga rfl (nil (sr (op (OpS.fbox (o3:=0) h1 .z PA.z Qoh rfl rfl rfl rfl ?_))))
 refine op (OpS.loadBi h1 .z PA.a (Get.fld Sample_.f0) ty5 rfl rfl rfl ?_)
 refine op (OpS.fptr h1 Qnr Sensor_.f0 rfl rfl rfl (.s .z) (λ u2 h2=>?_))
 refine op (OpS.loadi h2 ty5 rfl rfl rfl .z ?_)
 refine gb rfl (ga rfl ?_)
 obtain ⟨x1,e1,hF⟩:=Qh hF
 refine RunL.nameb e1 ?_
 refine nil (Run.retP rfl (.tmp rfl .nil) ?_)
 cases hF
 exact Post.mk' ⟨rfl,rfl,rfl,rfl⟩ (h2.picks .nil) .nil
theorem Qbq {fuel:Nat} {a0:List Sample_} {a1_0:Sensor_} {y:Int} (hF:Qn fuel a0 a1_0=some y) {w:World} {v0 v1_0:Value} :
  Spec Tryz.prog 79 [v0,.func (.func 80) #[] #[v1_0]].toArray w [(false,.val (Rep.slice Sample_.rep) v0 a0),(false,.ptr Sensor_.rep v1_0 a1_0)] [] (λ v Γr Ωr Ωo=>v=.int .i64 y∧Γr=[]∧Ωr=[]∧Ωo=[]):=by
 refine Spec.of (L:=[(0,v0),(1,.func (.func 80) #[] #[v1_0])]) Tryz.func79 rfl ⟨rfl,rfl,trivial⟩ rfl (λ e h=>?_)
 unfold Qn at hF
 refine sr (ga rfl (nil (Run.seq (sr (gm rfl (op (OpS.len h Tryz.underlying41 rfl rfl rfl (V.at .z) ?_)))))))
 refine gm rfl (nil (Run.block (Run.slim [(0,v0),(1,.func (.func 80) #[] #[v1_0]),(7,.int .i64 (a0.length:Int)),(8,.int .i64 0)] ⟨rfl,rfl,rfl,rfl,trivial⟩ ?_)))
 refine Run.loopP (σ:=Int) (λ s_ L_ w_=>L_=[(0,v0),(1,.func (.func 80) #[] #[v1_0]),(7,.int .i64 (a0.length:Int)),(8,.int .i64 s_)]∧St e w_ [(false,.val (Rep.slice Sample_.rep) v0 a0),(false,.ptr Sensor_.rep v1_0 a1_0)] []) hF ⟨rfl,(h.facts (.atm .z (.atm (.s .z) .nil))).picks .nil⟩ (λ k1 hk1 s1 _ w1 hI hF=>?_)
 obtain ⟨rfl,h1⟩:=hI
 refine sr (gb rfl (nil (Run.seq ?_)))
 refine Run.ite rfl hF (λ e1 hF=>?_) (λ e1 hF=>?_)
 ·refine Run.skip (Run.seq (Run.block (sr (gm rfl (ga rfl (nil (sr (gm rfl (gm rfl (gm rfl ?_))))))))))
  obtain ⟨x1,e2,hF⟩:=Qa hF
  refine op (OpS.iptr h1 Tryz.underlying41 ty93 rfl rfl rfl rfl (V.at .z) e2 (λ u1 h2=>?_))
  refine op (OpS.load h2 ty93 rfl rfl rfl .z (λ u2 h3=>?_))
  obtain ⟨y1,e3,hF⟩:=Qa hF
  refine op (OpS.callPF (fl:=[]) (cl:=[v1_0]) h3 Tryz.func80 rfl rfl rfl rfl rfl (vs:=[u2]) rfl (Qhz e3) (.cons (f:=false) (V.at .z) (.ptr (.s (.s (.s .z))) .nil)) ?_)
  rintro _ w2 _ _ _ ⟨rfl,rfl,rfl,rfl⟩ h4
  have h5:=h4 rfl rfl
  simp only [ca,na] at h5
  refine nil ?_
  refine Run.ite rfl hF (λ e4 hF=>?_) (λ e4 hF=>?_)
  ·refine sr (gm rfl (ga rfl (nil (Run.retP rfl (.tmp rfl .nil) ?_))))
   cases hF
   exact Post.mk' ⟨rfl,rfl,rfl,rfl⟩ (h5.picks .nil) .nil
  refine Run.skip (Run.endBlock (Run.reg (gb rfl (gm rfl (nil (Run.slim [(0,v0),(1,.func (.func 80) #[] #[v1_0]),(7,.int .i64 (a0.length:Int)),(8,.int .i64 (IntKind.i64.wrap (s1+1)))] ⟨rfl,rfl,rfl,rfl,trivial⟩ ?_))))))
  exact hk1 ((IntKind.i64.wrap (s1+1))) _ _ ⟨rfl,(h5.facts (.atm (.s (.s .z)) (.atm (.s (.s (.s .z))) .nil))).picks .nil⟩ hF
 refine Run.exit rfl ?_
 refine sr (ga rfl (nil (Run.retP rfl (.tmp rfl .nil) ?_)))
 cases hF
 exact Post.mk' ⟨rfl,rfl,rfl,rfl⟩ (h1.picks .nil) .nil
set_option maxHeartbeats 8000000 in set_option maxRecDepth 20000 in
theorem Qge {fuel:Nat} {a0:Qd} {a1:List Sample_} {a2:List Entity_} {a3:Bool} {y:(List Event_)×Int×Qd} (hF:Qbd fuel a0 a1 a2 a3=some y) {w:World} {v0 v0_0 v0_1 v1 v2:Value} :
  Spec Tryz.prog 20 [v0,v1,v2,.bool a3].toArray w [(false,.val (Rep.slice Sample_.rep) v1 a1),(false,.val (Rep.slice Entity_.rep) v2 a2),GqC] [(false,.box 184 (Qd.repW v0_0 v0_1) v0 a0),(false,.slice 188 Filter_.rep v0_0 a0.filters),(false,.slice 49 (Rep.int .u16) v0_1 a0.states)] (λ v Γr Ωr Ωo=>∃ u0 w0_0 w0_1:Value,v=.tuple #[u0,.int .i64 y.2.1]∧Γr=[]∧Ωr=[(true,(.slice 55 Event_.rep u0 y.1))]∧Ωo=[(false,.box 184 (Qd.repW w0_0 w0_1) v0 y.2.2),(false,(.slice 188 Filter_.rep w0_0 y.2.2.filters)),(false,(.slice 49 (Rep.int .u16) w0_1 y.2.2.states))]):=by
 refine Spec.of (L:=[(0,v0),(1,v1),(2,v2),(3,.bool a3)]) Tryz.func20 rfl ⟨rfl,rfl,rfl,rfl,trivial⟩ rfl (λ e h=>?_)
 unfold Qbd at hF
 refine sr (ga rfl (ga rfl (nil (Run.seq (sr (gm rfl (gm rfl ?_)))))))
 obtain ⟨y1,e1,hF⟩:=Qa hF
 have h1:=h.front (.cons .z (.cons .z (.cons .z .nil)))
 refine op (OpS.callO h1 Tryz.func77 rfl rfl rfl rfl (vs:=[v0,v1]) rfl (Qjl e1) rfl (.cons (f:=false) (V.at .z) .nil) ?_)
 rintro _ w1 _ _ _ ⟨rfl,rfl,rfl,rfl⟩ h2
 have h3:=h2
 simp only [ca,na] at h3
 refine ga rfl (nil (sr (gm rfl (gb rfl (nil ?_)))))
 refine Run.ite rfl hF (λ e2 hF=>?_) (λ e2 hF=>?_)
 ·refine sr (gm rfl (ga rfl (ga rfl (nil ?_))))
  have h4:=St.nil 55 Event_.rep h3
  refine Run.retP rfl (.tmp rfl (.tmp rfl .nil)) ?_
  cases hF
  exact Post.mk' ⟨(.slice none 0 0),v0_0,v0_1,rfl,rfl,rfl,rfl⟩ (h4.picks (.cons .z (.cons .z (.cons .z (.cons .z .nil))))) .nil
 refine Run.skip (sr (ga rfl (nil (Run.seq (sr (gm rfl (op (OpS.nchk h3 .z rfl rfl rfl ?_))))))))
 refine op (OpS.fbox (o3:=0) h3 .z PA.z Qhm rfl rfl rfl rfl ?_)
 refine op (OpS.loadB (fr:=(Rep.slice Sensor_.rep)) h3 .z PA.a (GetS.ok (GetS.iso _ (GetS.here GetS.id))) (Ty.like ty27 (by rfl) (by rfl)) rfl rfl rfl (λ u1 h5=>?_))
 refine op (OpS.len h5 Tryz.underlying27 rfl rfl rfl (V.at .z) ?_)
 refine gm rfl (nil (Run.block ?_))
 have h6:=St.nil 55 Event_.rep h5
 refine Run.slim [(0,v0),(1,v1),(2,v2),(3,.bool a3),(11,(.slice none 0 0)),(29,u1),(30,.int .i64 (a0.sensors.length:Int)),(31,.int .i64 0)] ⟨rfl,rfl,rfl,rfl,rfl,rfl,rfl,rfl,trivial⟩ ?_
 refine Run.loopP (σ:=(Int×Qd×(List Event_))) (λ s_ L_ w_=>∃ u0_ u1_ u2_:Value,L_=[(0,v0),(1,v1),(2,v2),(3,.bool a3),(11,u0_),(29,u1),(30,.int .i64 (a0.sensors.length:Int)),(31,.int .i64 s_.1)]∧St e w_ [(false,.val (Rep.slice Sample_.rep) v1 a1),(false,.val (Rep.slice Entity_.rep) v2 a2),(false,.val (Rep.slice Sensor_.rep) u1 a0.sensors),GqC] [(false,.box 184 (Qd.repW u1_ u2_) v0 s_.2.1),(true,.slice 55 Event_.rep u0_ s_.2.2),(false,.slice 188 Filter_.rep u1_ s_.2.1.filters),(false,.slice 49 (Rep.int .u16) u2_ s_.2.1.states)]) hF ⟨(.slice none 0 0),v0_0,v0_1,rfl,(h6.facts (.atm (.s .z) (.atm (.s (.s .z)) (.atm .z (.atm (.s (.s (.s .z))) .nil))))).picks (.cons (.s .z) (.cons .z (.cons .z (.cons .z .nil))))⟩ (λ k1 hk1 s1 _ w2 hI hF=>?_)
 obtain ⟨u2,u3,u4,rfl,h7⟩:=hI
 refine sr (gb rfl (nil (Run.seq ?_)))
 refine Run.ite rfl hF (λ e3 hF=>?_) (λ e3 hF=>?_)
 ·refine Run.skip (Run.seq (Run.block (sr (gm rfl ?_))))
  obtain ⟨x1,e4,hF⟩:=Qa hF
  refine op (OpS.iptr h7 Tryz.underlying27 ty74 rfl rfl rfl rfl (V.at (.s (.s .z))) e4 (λ u5 h8=>?_))
  refine op (OpS.load h8 ty74 rfl rfl rfl .z (λ u6 h9=>?_))
  refine op (OpS.alloc h9 ti74 Sensor_.zr rfl rfl (λ u7 w3 h10=>?_))
  refine ga rfl ?_
  have h11:=(h10.pick .z).weak
  refine op (OpS.storeB (f':=false) h11 .z PA.z Put.id ty74 rfl rfl rfl (V.at .z) (.inr rfl) (λ w4 h12=>?_))
  refine nil (Run.seq (Run.seq ?_))
  obtain ⟨y2,e5,hF⟩:=Qa hF
  refine Run.drawV (Ωs:=[(true,.slice 55 Event_.rep u2 s1.2.2),(false,.slice 188 Filter_.rep u3 s1.2.1.filters),(false,.slice 49 (Rep.int .u16) u4 s1.2.1.states)]) [.k 37 v0,.kr 38 v0 [1],.kr 39 (padd v0 1) [1],.fr 40 (λ u_=>[(false,.val (Rep.slice Association_.rep) u_ s1.2.1.l)]) [1],.k 41 v2,.kr 42 (padd u7 4) [0],.fr 43 (λ u_=>[(false,.val Entity_.rep u_ x1.Entity)]) [0],.k 44 (.tuple #[.bool y2.1,.int .i64 y2.2]),.k 36 (.tuple #[.bool y2.1,.int .i64 y2.2]),.k 45 (.bool y2.1),.k 46 (.int .i64 y2.2),.k 14 (.bool y2.1)] [[],[0],[1],[2],[],[],[5],[3,4,6],[7],[8],[8],[9]] [[(false,.box 74 Sensor_.rep u7 x1)],[(false,.box 184 (Qd.repW u3 u4) v0 s1.2.1)]] [0,1,2,3,4,5,6,7,8,9,10,11,12,13] Qi rfl rfl rfl h12 (.cons ?_ (.cons ?_ (.cons ?_ (.cons ?_ (.cons ?_ (.cons ?_ (.cons ?_ (.cons ?_ (.cons ?_ (.cons ?_ (.cons ?_ (.cons ?_ .nil)))))))))))) (λ q1 w hq1 h=>?_)
  ·intro q1 w Γx Ωx h
   refine OpS.mv rfl rfl rfl ?_
   exact du h
  ·intro q1 w Γx Ωx h
   refine OpS.nchk h .z rfl rfl rfl ?_
   exact du h
  ·intro q1 w Γx Ωx h
   refine OpS.fbox (o3:=1) h .z PA.z fa184_1 rfl rfl rfl rfl ?_
   exact du h
  ·intro q1 w Γx Ωx h
   refine OpS.loadB (fr:=(Rep.slice Association_.rep)) h .z PA.a (GetS.ok (GetS.iso _ (GetS.there (GetS.here GetS.id)))) (Ty.like ty76 (by rfl) (by rfl)) rfl rfl rfl (λ u h17=>?_)
   exact ⟨u,rfl,trivial,h17⟩
  ·intro q1 w Γx Ωx h
   refine OpS.mv rfl rfl rfl ?_
   exact du h
  ·intro q1 w Γx Ωx h
   refine OpS.fbox (o3:=4) h .z PA.z fa74_4 rfl rfl rfl rfl ?_
   exact du h
  ·intro q1 w Γx Ωx h
   refine OpS.loadB h .z PA.a (Get.fld Sensor_.f4) ty66 rfl rfl rfl (λ u h18=>?_)
   exact ⟨u,rfl,trivial,h18⟩
  ·intro q1 w Γx Ωx h
   refine OpS.callP h Tryz.func78 rfl rfl rfl rfl (vs:=[(q1 3),v2,(q1 6)]) rfl (Qmd e5) (.cons (f:=false) (V.at .z) (.cons (f:=false) (V.at (.s (.s (.s (.s (.s .z)))))) (.cons (f:=false) (V.at (.s .z)) .nil))) ?_
   rintro _ w6 _ _ _ ⟨rfl,rfl,rfl,rfl⟩ h19
   have h20:=h19 rfl rfl
   simp only [ca,na] at h20
   exact ⟨undef,rfl,trivial,h20⟩
  ·intro q1 w Γx Ωx h
   refine OpS.mv rfl rfl rfl ?_
   exact du h
  ·intro q1 w Γx Ωx h
   refine OpS.ext rfl rfl rfl rfl ?_
   exact du h
  ·intro q1 w Γx Ωx h
   refine OpS.ext rfl rfl rfl rfl ?_
   exact du h
  ·intro q1 w Γx Ωx h
   refine OpS.as rfl rfl rfl ?_
   exact du h
  have h21:=h
  refine ga rfl (nil (sr (gm rfl (op (OpS.not rfl rfl rfl ?_)))))
  refine gm rfl ?_
  refine RunL.join (σ:=Bool) (λ s_ L_ w_=>L_=[(0,v0),(1,v1),(2,v2),(3,.bool a3),(11,u2),(12,.int .i64 s1.1),(13,u7),(29,u1),(30,.int .i64 (a0.sensors.length:Int)),(31,.int .i64 s1.1),(56,.bool s_)]∧St e w_ [(false,.val (Rep.slice Sample_.rep) v1 a1),(false,.val (Rep.slice Entity_.rep) v2 a2),(false,.val (Rep.slice Sensor_.rep) u1 a0.sensors),GqC] [(false,.box 184 (Qd.repW u3 u4) v0 s1.2.1),(false,.box 74 Sensor_.rep u7 x1),(true,.slice 55 Event_.rep u2 s1.2.2),(false,.slice 188 Filter_.rep u3 s1.2.1.filters),(false,.slice 49 (Rep.int .u16) u4 s1.2.1.states)]) hF (λ s2 _ w7 hI hF=>?_) (λ j1 hj1 hF=>?_)
  ·obtain ⟨rfl,h22⟩:=hI
   refine Run.ite rfl hF (λ e6 hF=>?_) (λ e6 hF=>?_)
   ·refine sr (gm rfl (op (OpS.nchk h22 .z rfl rfl rfl ?_)))
    refine op (OpS.fbox (o3:=2) h22 .z PA.z Qol rfl rfl rfl rfl ?_)
    refine op (OpS.loadR h22 .z PA.a (GetS.ok (GetS.iso _ (GetS.there (GetS.there (GetS.here GetS.id))))) ty182 rfl rfl rfl rfl rfl ?_)
    refine gm rfl (op (OpS.build (f:=true) (x':=Filter_.z) h22 pl188 ti188 Filter_.zr rfl rfl rfl .nil (λ u8 h23=>?_)))
    obtain ⟨x2,e7,hF⟩:=Qa hF
    refine op (OpS.iown h23 (.s (.s (.s .z))) Tryz.underlying182 ty188 rfl rfl rfl rfl e7 ?_)
    obtain ⟨d1,e8,hF⟩:=Qh hF
    refine op (OpS.storeO (f':=false) h23 (.s (.s (.s .z))) (Qnl e7) PA.a (Put.of (Put.arr e7) e8) ty188 rfl rfl rfl (V.weak (V.at .z)) (.inr rfl) (λ w8 h24=>?_))
    refine nil (Run.exit rfl ?_)
    refine Run.reg (gb rfl (gm rfl (nil ?_)))
    have h25:=St.boxJ (r':=(Qd.repW u3 u4)) (x':={ { s1.2.1 with filters:=d1 } with states:=s1.2.1.states }) (h24.pick (.s .z)) (λ _ _ hs_=>(Jn.iso _ (Jn.prod Jn.refl (Jn.prod Jn.refl (Jn.prod Jn.same (Jn.prod Jn.same Jn.refl))))))
    have h26:=St.boxJ (r':=(Qd.repW u3 u4)) (x':={ { { { s1.2.1 with filters:=d1 } with states:=s1.2.1.states } with filters:=d1 } with states:=s1.2.1.states }) (h25.pick .z) (λ _ _ hs_=>(Jn.iso _ (Jn.prod Jn.refl (Jn.prod Jn.refl (Jn.prod Jn.same (Jn.prod Jn.same Jn.refl))))))
    refine Run.slim [(0,v0),(1,v1),(2,v2),(3,.bool a3),(11,u2),(29,u1),(30,.int .i64 (a0.sensors.length:Int)),(31,.int .i64 (IntKind.i64.wrap (s1.1+1)))] ⟨rfl,rfl,rfl,rfl,rfl,rfl,rfl,rfl,trivial⟩ ?_
    exact hk1 ((IntKind.i64.wrap (s1.1+1)),{ { { { s1.2.1 with filters:=d1 } with states:=s1.2.1.states } with filters:=d1 } with states:=s1.2.1.states },s1.2.2) _ _ ⟨u2,u3,u4,rfl,(h26.facts (.atm (.s .z) (.atm (.s (.s .z)) (.atm (.s (.s (.s .z))) (.atm (.s (.s (.s (.s .z)))) .nil))))).picks (.cons .z (.cons (.s (.s .z)) (.cons .z (.cons (.s .z) .nil))))⟩ hF
   refine Run.skip (sr (op (OpS.fbox (o3:=0) h22 (.s .z) PA.z Qnr rfl rfl rfl rfl ?_)))
   refine op (OpS.loadBi h22 (.s .z) PA.a (Get.fld Sensor_.f0) ty5 rfl rfl rfl ?_)
   refine op (OpS.build (f:=true) (x':=(⟨x1.Number,false,0,0⟩:Sample_)) h22 pl93 ti93 Sample_.zr rfl rfl rfl (.cons rfl Sample_.f0 rfl V.int .nil) (λ u9 h27=>?_))
   refine op (OpS.alloc h27 ti93 Sample_.zr rfl rfl (λ u10 w9 h28=>?_))
   refine op (OpS.storeB (f':=true) h28 .z PA.z Put.id ty93 rfl rfl rfl (V.at .z) (.inl rfl) (λ w10 h29=>?_))
   refine nil (Run.seq (sr (gm rfl (op (OpS.mkf (fl:=[]) (cl:=[u7]) rfl rfl rfl rfl ?_)))))
   obtain ⟨y3,e9,hF⟩:=Qa hF
   refine op (OpS.callP h29 Tryz.func79 rfl rfl rfl rfl (vs:=[v1,.func (.func 80) #[] #[u7]]) rfl (Qbq e9) (.cons (f:=false) (V.at (.s .z)) (.box (.s (.s .z)) .nil)) ?_)
   rintro _ w11 _ _ _ ⟨rfl,rfl,rfl,rfl⟩ h30
   have h31:=h30 rfl rfl
   simp only [ca,na] at h31
   refine ga rfl (nil (sr (gm rfl (gb rfl (nil ?_)))))
   refine Run.join (σ:=Sample_) (λ s_ L_ w_=>L_=[(0,v0),(1,v1),(2,v2),(3,.bool a3),(11,u2),(12,.int .i64 s1.1),(13,u7),(16,u10),(29,u1),(30,.int .i64 (a0.sensors.length:Int)),(31,.int .i64 s1.1)]∧St e w_ [(false,.val (Rep.slice Sample_.rep) v1 a1),(false,.val (Rep.slice Entity_.rep) v2 a2),(false,.val (Rep.slice Sensor_.rep) u1 a0.sensors),GqC] [(false,.box 184 (Qd.repW u3 u4) v0 s1.2.1),(false,.box 74 Sensor_.rep u7 x1),(false,.box 93 Sample_.rep u10 s_),(true,.slice 55 Event_.rep u2 s1.2.2),(false,.slice 188 Filter_.rep u3 s1.2.1.filters),(false,.slice 49 (Rep.int .u16) u4 s1.2.1.states)]) hF (λ s3 _ w12 hI hF=>?_) (λ j2 hj2 hF=>?_)
   ·obtain ⟨rfl,h32⟩:=hI
    refine sr (gm rfl (gm rfl (op (OpS.loadB h32 (.s (.s .z)) PA.z Get.id ty93 rfl rfl rfl (λ u11 h33=>?_)))))
    obtain ⟨y4,e10,hF⟩:=Qa hF
    have h34:=h33.front (.cons .z (.cons (.s (.s (.s .z))) (.cons (.s (.s (.s .z))) .nil)))
    refine op (OpS.callO h34 Tryz.func81 rfl rfl rfl rfl (vs:=[v0,.int .i64 s1.1,u11]) rfl (Qjp e10) rfl (.cons (f:=false) (V.at .z) .nil) ?_)
    rintro _ w13 _ _ _ ⟨u12,u13,u14,rfl,rfl,rfl,rfl⟩ h35
    have h36:=h35
    simp only [ca,na] at h36
    refine gm rfl (op (OpS.ext rfl rfl rfl rfl ?_))
    refine op (OpS.ext rfl rfl rfl rfl ?_)
    refine ga rfl (ga rfl (nil (Run.reg (gm rfl (op (OpS.loadB h36 (.s (.s (.s .z))) PA.z Get.id ty74 rfl rfl rfl (λ u15 h37=>?_)))))))
    refine gm rfl (gm rfl ?_)
    obtain ⟨y5,e11,hF⟩:=Qa hF
    refine op (OpS.callP h37 Tryz.func82 rfl rfl rfl rfl (vs:=[u15,u12,.int .u8 y4.2.1]) rfl (Qmg e11) (.cons (f:=false) (V.at .z) (.cons (f:=true) (V.at (.s .z)) (.ptr (.s (.s (.s (.s (.s (.s .z)))))) .nil))) ?_)
    rintro u16 w14 _ _ _ ⟨_,rfl,rfl,rfl,rfl⟩ h38
    have h39:=h38 rfl rfl
    simp only [ca,na] at h39
    have h40:=(h39.pick .z).freeze
    obtain ⟨x3,e12,hF⟩:=Qa hF
    refine op (OpS.app (f':=true) h40 (.s (.s (.s (.s (.s .z))))) Tryz.underlying40 ti55 rfl rfl rfl rfl rfl rfl rfl (V.at .z) (.inr Event_.pure) e12 (λ u17 w15 h41=>?_))
    refine ga rfl (nil (Run.endBlock (Run.reg (gb rfl (gm rfl (nil (Run.slim [(0,v0),(1,v1),(2,v2),(3,.bool a3),(11,u17),(29,u1),(30,.int .i64 (a0.sensors.length:Int)),(31,.int .i64 (IntKind.i64.wrap (s1.1+1)))] ⟨rfl,rfl,rfl,rfl,rfl,rfl,rfl,rfl,trivial⟩ ?_)))))))
    exact hk1 ((IntKind.i64.wrap (s1.1+1)),y4.2.2,x3) _ _ ⟨u17,u13,u14,rfl,(h41.facts (.atm (.s (.s (.s (.s .z)))) (.atm (.s (.s (.s (.s (.s .z))))) (.atm (.s (.s (.s (.s (.s (.s .z)))))) (.atm (.s (.s (.s (.s (.s (.s (.s .z))))))) .nil))))).picks (.cons (.s .z) (.cons .z (.cons .z (.cons .z .nil))))⟩ hF
   refine Run.ite rfl hF (λ e13 hF=>?_) (λ e13 hF=>?_)
   ·refine Run.reg (gm rfl (gm rfl ?_))
    obtain ⟨x4,e14,hF⟩:=Qa hF
    refine op (OpS.iptr h31 Tryz.underlying41 ty93 rfl rfl rfl rfl (V.at (.s .z)) e14 (λ u18 h42=>?_))
    refine op (OpS.load h42 ty93 rfl rfl rfl .z (λ u19 h43=>?_))
    have h44:=(h43.pick .z).weak
    refine op (OpS.storeB (f':=false) h44 .z PA.z Put.id ty93 rfl rfl rfl (V.at .z) (.inr rfl) (λ w16 h45=>?_))
    refine nil (Run.slim [(0,v0),(1,v1),(2,v2),(3,.bool a3),(11,u2),(12,.int .i64 s1.1),(13,u7),(16,u10),(29,u1),(30,.int .i64 (a0.sensors.length:Int)),(31,.int .i64 s1.1)] ⟨rfl,rfl,rfl,rfl,rfl,rfl,rfl,rfl,rfl,rfl,rfl,trivial⟩ ?_)
    exact hj2 (x4) _ _ ⟨rfl,(h45.facts (.atm (.s (.s (.s .z))) (.atm (.s (.s (.s (.s .z)))) (.atm (.s (.s (.s (.s (.s .z))))) (.atm (.s (.s (.s (.s (.s (.s .z)))))) .nil))))).picks (.cons (.s .z) (.cons (.s .z) (.cons .z (.cons .z (.cons .z (.cons .z .nil))))))⟩ hF
   refine Run.skip ?_
   have h46:=(h31.pick .z).weak
   refine Run.slim [(0,v0),(1,v1),(2,v2),(3,.bool a3),(11,u2),(12,.int .i64 s1.1),(13,u7),(16,u10),(29,u1),(30,.int .i64 (a0.sensors.length:Int)),(31,.int .i64 s1.1)] ⟨rfl,rfl,rfl,rfl,rfl,rfl,rfl,rfl,rfl,rfl,rfl,trivial⟩ ?_
   exact hj2 ((⟨x1.Number,false,0,0⟩:Sample_)) _ _ ⟨rfl,(h46.facts (.atm (.s .z) (.atm (.s (.s .z)) (.atm (.s (.s (.s .z))) (.atm (.s (.s (.s (.s .z)))) .nil))))).picks (.cons (.s .z) (.cons (.s .z) (.cons .z (.cons .z (.cons .z (.cons .z .nil))))))⟩ hF
  refine RunL.caseb hF (λ e15 hF=>?_) (λ e15 hF=>?_)
  ·refine gp rfl (gp rfl (gp rfl (gp rfl (gp rfl (gp rfl (gk rfl (nil (Run.slim [(0,v0),(1,v1),(2,v2),(3,.bool a3),(11,u2),(12,.int .i64 s1.1),(13,u7),(29,u1),(30,.int .i64 (a0.sensors.length:Int)),(31,.int .i64 s1.1),(56,.bool true)] ⟨rfl,rfl,rfl,rfl,rfl,rfl,rfl,rfl,rfl,rfl,rfl,trivial⟩ ?_))))))))
   exact hj1 (true) _ _ ⟨rfl,(h21.facts (.atm (.s (.s (.s (.s .z)))) (.atm (.s (.s (.s (.s (.s .z))))) (.atm (.s (.s (.s (.s (.s (.s .z)))))) (.atm (.s (.s (.s (.s (.s (.s (.s .z))))))) .nil))))).picks (.cons (.s .z) (.cons .z (.cons .z (.cons .z (.cons .z .nil)))))⟩ hF
  refine op (OpS.fbox (o3:=26) h21 .z PA.z fa74_13 rfl rfl rfl rfl ?_)
  refine op (OpS.loadBb h21 .z PA.a (Get.fld Sensor_.f13) ty4 rfl rfl rfl ?_)
  refine gm rfl ?_
  refine RunL.caseb hF (λ e16 hF=>?_) (λ e16 hF=>?_)
  ·refine gm rfl (op (OpS.not rfl rfl rfl ?_))
   refine gk rfl (gk rfl (nil (Run.slim [(0,v0),(1,v1),(2,v2),(3,.bool a3),(11,u2),(12,.int .i64 s1.1),(13,u7),(29,u1),(30,.int .i64 (a0.sensors.length:Int)),(31,.int .i64 s1.1),(56,.bool (!a3))] ⟨rfl,rfl,rfl,rfl,rfl,rfl,rfl,rfl,rfl,rfl,rfl,trivial⟩ ?_)))
   exact hj1 (!a3) _ _ ⟨rfl,(h21.facts (.atm (.s (.s (.s (.s .z)))) (.atm (.s (.s (.s (.s (.s .z))))) (.atm (.s (.s (.s (.s (.s (.s .z)))))) (.atm (.s (.s (.s (.s (.s (.s (.s .z))))))) .nil))))).picks (.cons (.s .z) (.cons .z (.cons .z (.cons .z (.cons .z .nil)))))⟩ hF
  refine gp rfl (gp rfl (gk rfl (gk rfl (nil (Run.slim [(0,v0),(1,v1),(2,v2),(3,.bool a3),(11,u2),(12,.int .i64 s1.1),(13,u7),(29,u1),(30,.int .i64 (a0.sensors.length:Int)),(31,.int .i64 s1.1),(56,.bool false)] ⟨rfl,rfl,rfl,rfl,rfl,rfl,rfl,rfl,rfl,rfl,rfl,trivial⟩ ?_)))))
  exact hj1 (false) _ _ ⟨rfl,(h21.facts (.atm (.s (.s (.s (.s .z)))) (.atm (.s (.s (.s (.s (.s .z))))) (.atm (.s (.s (.s (.s (.s (.s .z)))))) (.atm (.s (.s (.s (.s (.s (.s (.s .z))))))) .nil))))).picks (.cons (.s .z) (.cons .z (.cons .z (.cons .z (.cons .z .nil)))))⟩ hF
 refine Run.exit rfl ?_
 refine sr (gm rfl (ga rfl (ga rfl (nil (Run.retP rfl (.tmp rfl (.tmp rfl .nil)) ?_)))))
 cases hF
 exact Post.mk' ⟨u2,u3,u4,rfl,rfl,rfl,rfl⟩ (h7.picks (.cons (.s .z) (.cons .z (.cons .z (.cons .z .nil))))) .nil
theorem Qkz {fuel:Nat} {a0:Qc} {y:Bool} (hF:Qgg fuel a0=some y) {w:World} {v0 v0_0 v0_1:Value} :
  Spec Tryz.prog 155 [v0].toArray w [] [(false,.box 166 (Qc.repW v0_0 v0_1) v0 a0),(false,.slice 5 (Rep.int .u8) v0_0 a0.bytes),(false,.slice 3 (Rep.int .i64) v0_1 a0.wear)] (λ v Γr Ωr Ωo=>v=.bool y∧Γr=[]∧Ωr=[]∧Ωo=[(false,.box 166 (Qc.repW v0_0 v0_1) v0 a0),(false,(.slice 5 (Rep.int .u8) v0_0 a0.bytes)),(false,(.slice 3 (Rep.int .i64) v0_1 a0.wear))]):=by
 refine Spec.of (L:=[(0,v0)]) Tryz.func155 rfl ⟨rfl,trivial⟩ rfl (λ e h=>?_)
 unfold Qgg at hF
 refine sr (ga rfl (nil (sr (gm rfl (op (OpS.nchk h .z rfl rfl rfl ?_))))))
 refine op (OpS.fbox (o3:=6) h .z PA.z Qgc rfl rfl rfl rfl ?_)
 refine op (OpS.loadBb h .z PA.a (GetS.ok (GetS.iso _ (GetS.there (GetS.there (GetS.there (GetS.there (GetS.there (GetS.there (GetS.here GetS.id))))))))) ty4 rfl rfl rfl ?_)
 refine ga rfl (nil (Run.retP rfl (.tmp rfl .nil) ?_))
 cases hF
 exact Post.mk' ⟨rfl,rfl,rfl,rfl⟩ (h.picks (.cons .z (.cons .z (.cons .z .nil)))) .nil
theorem Qfa {fuel:Nat} {a0:Qb} {ad:Qc} {y:Bool×Qb×Qc} (hF:Qbk fuel a0 ad=some y) {w:World} {v0 v0_0 qd v0_1 vd_0 vd_1:Value} :
  Spec Tryz.prog 83 [v0].toArray w [] [(false,.box 169 (Qb.repW v0_0 v0_1) v0 a0),(false,.lnk qd v0_0 a0.d),(false,.slice 200 Qe.rep v0_1 a0.records),(false,.box 166 (Qc.repW vd_0 vd_1) qd ad),(false,.slice 5 (Rep.int .u8) vd_0 ad.bytes),(false,.slice 3 (Rep.int .i64) vd_1 ad.wear)] (λ v Γr Ωr Ωo=>∃ w0_0 w0_1 wd_0 wd_1:Value,v=.bool y.1∧Γr=[]∧Ωr=[]∧Ωo=[(false,.box 169 (Qb.repW w0_0 w0_1) v0 y.2.1),(false,.lnk qd w0_0 y.2.1.d),(false,(.slice 200 Qe.rep w0_1 y.2.1.records)),(false,.box 166 (Qc.repW wd_0 wd_1) qd y.2.2),(false,(.slice 5 (Rep.int .u8) wd_0 y.2.2.bytes)),(false,(.slice 3 (Rep.int .i64) wd_1 y.2.2.wear))]):=by
 refine Spec.of (L:=[(0,v0)]) Tryz.func83 rfl ⟨rfl,trivial⟩ rfl (λ e h=>?_)
 unfold Qbk at hF
 refine sr (ga rfl (nil (Run.seq (sr (gm rfl (op (OpS.nchk h .z rfl rfl rfl ?_)))))))
 refine op (OpS.fbox (o3:=12) h .z PA.z Qox rfl rfl rfl rfl ?_)
 refine op (OpS.loadBb h .z PA.a (GetS.ok (GetS.iso _ (GetS.there (GetS.there (GetS.there (GetS.there (GetS.there (GetS.there (GetS.there (GetS.there (GetS.there (GetS.there (GetS.there (GetS.there (GetS.here GetS.id))))))))))))))) ty4 rfl rfl rfl ?_)
 refine gm rfl ?_
 refine RunL.join (σ:=Bool) (λ s_ L_ w_=>∃ u0_:Value,L_=[(0,v0),(13,.bool s_)]∧St e w_ [] [(false,.box 169 (Qb.repW u0_ v0_1) v0 a0),(false,.box 166 (Qc.repW vd_0 vd_1) qd ad),(false,.lnk qd u0_ a0.d),(false,.slice 200 Qe.rep v0_1 a0.records),(false,.slice 5 (Rep.int .u8) vd_0 ad.bytes),(false,.slice 3 (Rep.int .i64) vd_1 ad.wear)]) hF (λ s1 _ w1 hI hF=>?_) (λ j1 hj1 hF=>?_)
 ·obtain ⟨u1,rfl,h1⟩:=hI
  refine Run.ite rfl hF (λ e1 hF=>?_) (λ e1 hF=>?_)
  ·refine Run.reg (gm rfl ?_)
   have h2:=St.lnkNil qd h1
   have h3:=St.nil 200 Qe.rep h2
   refine op (OpS.buildC (f:=true) (r:=(Qb.repW (.pointer none) (.slice none 0 0))) (x:=Qb.z) (r':=(Qb.repW (.pointer none) (.slice none 0 0))) (x':=(⟨false,0,0,false,0,0,0,0,[],false,0,false,true⟩:Qb)) h3 pl169 ti169 (Zr.iso (y:=Qb.z) _ (Zr.of (Zr.prod (Zr.raw rfl (false:Bool)) (Zr.prod (Zr.int .i64 0) (Zr.prod (Zr.int .i64 0) (Zr.prod (Zr.bool false) (Zr.prod (Zr.int .i64 0) (Zr.prod (Zr.int .i64 0) (Zr.prod (Zr.int .i64 0) (Zr.prod (Zr.int .u16 0) (Zr.prod (Zr.raw rfl ([]:List Qe)) (Zr.prod (Zr.bool false) (Zr.prod (Zr.int .u16 0) (Zr.prod (Zr.bool false) (Zr.prod (Zr.bool false) Zr.unit))))))))))))) (by rfl))) rfl rfl rfl (.cons Rep.bool (Qb.repW (.pointer none) (.slice none 0 0)) (Qb.repW (.pointer none) (.slice none 0 0)) Qb.z (⟨false,0,0,false,0,0,0,0,[],false,0,false,true⟩:Qb) (Chg.iso _ (Chg.there (Chg.there (Chg.there (Chg.there (Chg.there (Chg.there (Chg.there (Chg.there (Chg.there (Chg.there (Chg.there (Chg.there (Chg.here (Chg.id (by rfl)))))))))))))))) rfl rfl V.bool .nil) (λ u2 h4=>?_))
   refine op (OpS.nchk h4 (.s (.s .z)) rfl rfl rfl ?_)
   refine op (OpS.storeC (f':=false) (fr:=(Qb.repW (.pointer none) (.slice none 0 0))) (r':=(Qb.repW (.pointer none) (.slice none 0 0))) (x':=(⟨false,0,0,false,0,0,0,0,[],false,0,false,true⟩:Qb)) h4 (.s (.s .z)) PA.z (Chg.id (by rfl)) (Ty.like ty169 (by rfl) (by rfl)) rfl rfl rfl (V.weak (V.at .z)) (.inr rfl) (λ w2 h5=>?_))
   refine nil (sr (gm rfl (op (OpS.nchk h5 .z rfl rfl rfl ?_))))
   refine op (OpS.fbox (o3:=12) h5 .z PA.z Qox rfl rfl rfl rfl ?_)
   refine op (OpS.loadBb h5 .z PA.a (GetS.ok (GetS.iso _ (GetS.there (GetS.there (GetS.there (GetS.there (GetS.there (GetS.there (GetS.there (GetS.there (GetS.there (GetS.there (GetS.there (GetS.there (GetS.here GetS.id))))))))))))))) ty4 rfl rfl rfl ?_)
   refine ga rfl (nil ?_)
   have h6:=(h5.pick (.s (.s .z))).weak
   have h7:=(h6.pick (.s (.s .z))).weak
   refine Run.retP rfl (.tmp rfl .nil) ?_
   cases hF
   exact Post.mk' ⟨(.pointer none),(.slice none 0 0),vd_0,vd_1,rfl,rfl,rfl,rfl⟩ (h7.picks (.cons (.s (.s .z)) (.cons (.s .z) (.cons .z (.cons .z (.cons (.s (.s .z)) (.cons (.s (.s .z)) .nil))))))) .nil
  refine Run.skip (sr (gm rfl (op (OpS.nchk h1 .z rfl rfl rfl ?_))))
  refine op (OpS.fbox (o3:=12) h1 .z PA.z Qox rfl rfl rfl rfl ?_)
  refine op (OpS.loadBb h1 .z PA.a (GetS.ok (GetS.iso _ (GetS.there (GetS.there (GetS.there (GetS.there (GetS.there (GetS.there (GetS.there (GetS.there (GetS.there (GetS.there (GetS.there (GetS.there (GetS.here GetS.id))))))))))))))) ty4 rfl rfl rfl ?_)
  refine ga rfl (nil (Run.retP rfl (.tmp rfl .nil) ?_))
  cases hF
  exact Post.mk' ⟨u1,v0_1,vd_0,vd_1,rfl,rfl,rfl,rfl⟩ (h1.picks (.cons .z (.cons (.s .z) (.cons (.s .z) (.cons .z (.cons .z (.cons .z .nil))))))) .nil
 refine RunL.caseb hF (λ e2 hF=>?_) (λ e2 hF=>?_)
 ·refine gp rfl (gp rfl (gp rfl (gp rfl (gp rfl (gk rfl (nil (Run.slim [(0,v0),(13,.bool true)] ⟨rfl,rfl,trivial⟩ ?_)))))))
  exact hj1 (true) _ _ ⟨v0_0,rfl,(h.facts .nil).picks (.cons .z (.cons (.s (.s .z)) (.cons .z (.cons .z (.cons .z (.cons .z .nil))))))⟩ hF
 refine gm rfl (op (OpS.nchk h .z rfl rfl rfl ?_))
 refine op (OpS.fbox (o3:=0) h .z PA.z Qfn rfl rfl rfl rfl ?_)
 obtain ⟨e3,hF⟩:=Qr hF
 obtain ⟨e4,h8⟩:=St.attach (h.pick (.s .z)) e3
 subst e4
 refine op (OpS.loadR h8 (.s .z) PA.a (GetS.ok (GetS.iso _ (GetS.here GetS.id))) ty31 rfl rfl rfl rfl rfl ?_)
 obtain ⟨y1,e5,hF⟩:=Qa hF
 have h9:=h8.front (.cons (.s (.s (.s .z))) (.cons (.s (.s (.s .z))) (.cons (.s (.s (.s .z))) .nil)))
 refine op (OpS.callO h9 Tryz.func155 rfl rfl rfl rfl (vs:=[qd]) rfl (Qkz e5) rfl .nil ?_)
 rintro _ w3 _ _ _ ⟨rfl,rfl,rfl,rfl⟩ h10
 have h11:=h10
 simp only [ca,na] at h11
 refine gk rfl (nil (Run.slim [(0,v0),(13,.bool y1)] ⟨rfl,rfl,trivial⟩ ?_))
 exact hj1 (y1) _ _ ⟨qd,rfl,(h11.facts .nil).picks (.cons (.s (.s (.s (.s .z)))) (.cons .z (.cons (.s (.s .z)) (.cons (.s (.s .z)) (.cons .z (.cons .z .nil))))))⟩ hF
theorem Qhg {fuel:Nat} {a0:Qc} {y:Bool×Qc} (hF:Qck fuel a0=some y) {w:World} {v0 v0_0 v0_1:Value} :
  Spec Tryz.prog 157 [v0].toArray w [] [(false,.box 166 (Qc.repW v0_0 v0_1) v0 a0),(false,.slice 5 (Rep.int .u8) v0_0 a0.bytes),(false,.slice 3 (Rep.int .i64) v0_1 a0.wear)] (λ v Γr Ωr Ωo=>∃ w0_0 w0_1:Value,v=.bool y.1∧Γr=[]∧Ωr=[]∧Ωo=[(false,.box 166 (Qc.repW w0_0 w0_1) v0 y.2),(false,(.slice 5 (Rep.int .u8) w0_0 y.2.bytes)),(false,(.slice 3 (Rep.int .i64) w0_1 y.2.wear))]):=by
 refine Spec.of (L:=[(0,v0)]) Tryz.func157 rfl ⟨rfl,trivial⟩ rfl (λ e h=>?_)
 unfold Qck at hF
 refine sr (ga rfl (nil (sr (gm rfl (op (OpS.nchk h .z rfl rfl rfl ?_))))))
 refine op (OpS.fbox (o3:=3) h .z PA.z Qtk rfl rfl rfl rfl ?_)
 refine op (OpS.loadBi h .z PA.a (GetS.ok (GetS.iso _ (GetS.there (GetS.there (GetS.there (GetS.here GetS.id)))))) ty3 rfl rfl rfl ?_)
 refine gb rfl (op (OpS.nchk h .z rfl rfl rfl ?_))
 refine op (OpS.fbox (o3:=3) h .z PA.z Qtk rfl rfl rfl rfl ?_)
 obtain ⟨d1,e1,hF⟩:=Qh hF
 refine op (OpS.storeC (f':=true) (fr:=(Rep.int .i64)) (r':=(Qc.repW v0_0 v0_1)) (x':=d1) h .z PA.a (Chg.of (x':={ a0 with steps:=(IntKind.i64.wrap (a0.steps+1)) }) (Chg.iso _ (Chg.there (Chg.there (Chg.there (Chg.here (Chg.id (by rfl))))))) e1) ty3 rfl rfl rfl V.int (.inr rfl) (λ w1 h1=>?_))
 refine nil (Run.seq (sr (gm rfl (op (OpS.nchk h1 .z rfl rfl rfl ?_)))))
 refine op (OpS.fbox (o3:=4) h1 .z PA.z Qiy rfl rfl rfl rfl ?_)
 refine op (OpS.loadBi h1 .z PA.a (GetS.ok (GetS.iso _ (GetS.there (GetS.there (GetS.there (GetS.there (GetS.here GetS.id))))))) ty3 rfl rfl rfl ?_)
 refine gb rfl (nil ?_)
 refine Run.ite rfl hF (λ e2 hF=>?_) (λ e2 hF=>?_)
 ·refine sr (gm rfl (op (OpS.nchk h1 .z rfl rfl rfl ?_)))
  refine op (OpS.fbox (o3:=4) h1 .z PA.z Qiy rfl rfl rfl rfl ?_)
  refine op (OpS.loadBi h1 .z PA.a (GetS.ok (GetS.iso _ (GetS.there (GetS.there (GetS.there (GetS.there (GetS.here GetS.id))))))) ty3 rfl rfl rfl ?_)
  refine gb rfl (op (OpS.nchk h1 .z rfl rfl rfl ?_))
  refine op (OpS.fbox (o3:=4) h1 .z PA.z Qiy rfl rfl rfl rfl ?_)
  obtain ⟨d2,e3,hF⟩:=Qh hF
  refine op (OpS.storeC (f':=true) (fr:=(Rep.int .i64)) (r':=(Qc.repW v0_0 v0_1)) (x':=d2) h1 .z PA.a (Chg.of (x':={ d1 with left:=(IntKind.i64.wrap (d1.left-1)) }) (Chg.iso _ (Chg.there (Chg.there (Chg.there (Chg.there (Chg.here (Chg.id (by rfl)))))))) e3) ty3 rfl rfl rfl V.int (.inr rfl) (λ w2 h2=>?_))
  refine nil (Run.reg (gm rfl (gm rfl (op (OpS.nchk h2 .z rfl rfl rfl ?_)))))
  refine op (OpS.fbox (o3:=4) h2 .z PA.z Qiy rfl rfl rfl rfl ?_)
  refine op (OpS.loadBi h2 .z PA.a (GetS.ok (GetS.iso _ (GetS.there (GetS.there (GetS.there (GetS.there (GetS.here GetS.id))))))) ty3 rfl rfl rfl ?_)
  refine gb rfl (op (OpS.nchk h2 .z rfl rfl rfl ?_))
  refine op (OpS.fbox (o3:=6) h2 .z PA.z Qgc rfl rfl rfl rfl ?_)
  obtain ⟨d3,e4,hF⟩:=Qh hF
  refine op (OpS.storeC (f':=true) (fr:=Rep.bool) (r':=(Qc.repW v0_0 v0_1)) (x':=d3) h2 .z PA.a (Chg.of (x':={ d2 with down:=d2.left==0 }) (Chg.iso _ (Chg.there (Chg.there (Chg.there (Chg.there (Chg.there (Chg.there (Chg.here (Chg.id (by rfl)))))))))) e4) ty4 rfl rfl rfl V.bool (.inr rfl) (λ w3 h3=>?_))
  refine nil (sr (gm rfl (op (OpS.nchk h3 .z rfl rfl rfl ?_))))
  refine op (OpS.fbox (o3:=6) h3 .z PA.z Qgc rfl rfl rfl rfl ?_)
  refine op (OpS.loadBb h3 .z PA.a (GetS.ok (GetS.iso _ (GetS.there (GetS.there (GetS.there (GetS.there (GetS.there (GetS.there (GetS.here GetS.id))))))))) ty4 rfl rfl rfl ?_)
  refine ga rfl (nil (Run.slim [(2,.bool d3.down)] ⟨rfl,trivial⟩ ?_))
  have h4:=St.boxJ (r':=(Qc.repW v0_0 v0_1)) (x':={ { d3 with bytes:=a0.bytes } with wear:=a0.wear }) (h3.pick .z) (λ _ _ hs_=>(Jn.iso _ (Jn.prod Jn.refl (Jn.prod Jn.same (Jn.prod Jn.same Jn.refl)))))
  refine Run.retP rfl (.tmp rfl .nil) ?_
  cases hF
  exact Post.mk' ⟨v0_0,v0_1,rfl,rfl,rfl,rfl⟩ (h4.picks (.cons .z (.cons .z (.cons .z .nil)))) .nil
 refine Run.skip (sr (gm rfl (op (OpS.nchk h1 .z rfl rfl rfl ?_))))
 refine op (OpS.fbox (o3:=6) h1 .z PA.z Qgc rfl rfl rfl rfl ?_)
 refine op (OpS.loadBb h1 .z PA.a (GetS.ok (GetS.iso _ (GetS.there (GetS.there (GetS.there (GetS.there (GetS.there (GetS.there (GetS.here GetS.id))))))))) ty4 rfl rfl rfl ?_)
 refine ga rfl (nil ?_)
 have h5:=St.boxJ (r':=(Qc.repW v0_0 v0_1)) (x':={ { d1 with bytes:=a0.bytes } with wear:=a0.wear }) (h1.pick .z) (λ _ _ hs_=>(Jn.iso _ (Jn.prod Jn.refl (Jn.prod Jn.same (Jn.prod Jn.same Jn.refl)))))
 refine Run.retP rfl (.tmp rfl .nil) ?_
 cases hF
 exact Post.mk' ⟨v0_0,v0_1,rfl,rfl,rfl,rfl⟩ (h5.picks (.cons .z (.cons .z (.cons .z .nil)))) .nil
set_option maxHeartbeats 8000000 in set_option maxRecDepth 20000 in
theorem Qkg {fuel:Nat} {a0:Qc} {a1:Int} {y:Int×Qc} (hF:Qct fuel a0 a1=some y) {w:World} {v0 v0_0 v0_1:Value} :
  Spec Tryz.prog 207 [v0,.int .i64 a1].toArray w [] [(false,.box 166 (Qc.repW v0_0 v0_1) v0 a0),(false,.slice 5 (Rep.int .u8) v0_0 a0.bytes),(false,.slice 3 (Rep.int .i64) v0_1 a0.wear)] (λ v Γr Ωr Ωo=>∃ w0_0 w0_1:Value,v=.int .i64 y.1∧Γr=[]∧Ωr=[]∧Ωo=[(false,.box 166 (Qc.repW w0_0 w0_1) v0 y.2),(false,(.slice 5 (Rep.int .u8) w0_0 y.2.bytes)),(false,(.slice 3 (Rep.int .i64) w0_1 y.2.wear))]):=by
 refine Spec.of (L:=[(0,v0),(1,.int .i64 a1)]) Tryz.func207 rfl ⟨rfl,rfl,trivial⟩ rfl (λ e h=>?_)
 unfold Qct at hF
 refine sr (ga rfl (nil (Run.seq (Run.block (sr (gm rfl (op (OpS.nchk h .z rfl rfl rfl ?_))))))))
 refine op (OpS.fbox (o3:=6) h .z PA.z Qgc rfl rfl rfl rfl ?_)
 refine op (OpS.loadBb h .z PA.a (GetS.ok (GetS.iso _ (GetS.there (GetS.there (GetS.there (GetS.there (GetS.there (GetS.there (GetS.here GetS.id))))))))) ty4 rfl rfl rfl ?_)
 refine ga rfl (nil ?_)
 refine Run.ite rfl hF (λ e1 hF=>?_) (λ e1 hF=>?_)
 ·refine sr (ga rfl (nil (Run.retP rfl (.tmp rfl .nil) ?_)))
  cases hF
  exact Post.mk' ⟨v0_0,v0_1,rfl,rfl,rfl,rfl⟩ (h.picks (.cons .z (.cons .z (.cons .z .nil)))) .nil
 refine sr (gm rfl (gb rfl (gm rfl ?_)))
 refine RunL.join (σ:=Bool) (λ s_ L_ w_=>L_=[(0,v0),(1,.int .i64 a1),(14,.bool s_)]∧St e w_ [] [(false,.box 166 (Qc.repW v0_0 v0_1) v0 a0),(false,.slice 5 (Rep.int .u8) v0_0 a0.bytes),(false,.slice 3 (Rep.int .i64) v0_1 a0.wear)]) hF (λ s1 _ w1 hI hF=>?_) (λ j1 hj1 hF=>?_)
 ·obtain ⟨rfl,h1⟩:=hI
  refine Run.ite rfl hF (λ e2 hF=>?_) (λ e2 hF=>?_)
  ·refine sr (ga rfl (nil (Run.retP rfl (.tmp rfl .nil) ?_)))
   cases hF
   exact Post.mk' ⟨v0_0,v0_1,rfl,rfl,rfl,rfl⟩ (h1.picks (.cons .z (.cons .z (.cons .z .nil)))) .nil
  refine Run.skip (Run.endBlock (sr (gm rfl (op (OpS.nchk h1 .z rfl rfl rfl ?_)))))
  refine op (OpS.fbox (o3:=2) h1 .z PA.z Qpr rfl rfl rfl rfl ?_)
  refine op (OpS.loadR h1 .z PA.a (GetS.ok (GetS.iso _ (GetS.there (GetS.there (GetS.here GetS.id))))) ty22 rfl rfl rfl rfl rfl ?_)
  refine gm rfl ?_
  obtain ⟨x1,e3,hF⟩:=Qa hF
  refine op (OpS.iown h1 (.s (.s .z)) Tryz.underlying22 ty3 rfl rfl rfl rfl e3 ?_)
  refine op (OpS.loadOi h1 (.s (.s .z)) (Qnl e3) PA.a (Get.arr e3) ty3 rfl rfl rfl ?_)
  refine gb rfl (op (OpS.iown h1 (.s (.s .z)) Tryz.underlying22 ty3 rfl rfl rfl rfl e3 ?_))
  obtain ⟨d1,e4,hF⟩:=Qh hF
  refine op (OpS.storeO (f':=true) h1 (.s (.s .z)) (Qnl e3) PA.a (Put.of (Put.arr e3) e4) ty3 rfl rfl rfl V.int (.inr rfl) (λ w2 h2=>?_))
  refine nil (sr (gm rfl ?_))
  have h3:=St.boxJ (r':=(Qc.repW v0_0 v0_1)) (x':={ a0 with wear:=d1 }) (h2.pick (.s .z)) (λ _ _ hs_=>(Jn.iso _ (Jn.prod Jn.refl (Jn.prod Jn.same (Jn.prod Jn.same Jn.refl)))))
  obtain ⟨y1,e5,hF⟩:=Qa hF
  have h4:=h3.front (.cons .z (.cons (.s .z) (.cons .z .nil)))
  refine op (OpS.callO h4 Tryz.func157 rfl rfl rfl rfl (vs:=[v0]) rfl (Qhg e5) rfl .nil ?_)
  rintro _ w3 _ _ _ ⟨u1,u2,rfl,rfl,rfl,rfl⟩ h5
  have h6:=h5
  simp only [ca,na] at h6
  refine ga rfl (nil (sr (ga rfl (nil (Run.seq (sr (gm rfl (nil ?_))))))))
  refine Run.join (σ:=Int) (λ s_ L_ w_=>L_=[(0,v0),(1,.int .i64 a1),(5,.bool y1.1),(6,.int .u8 s_)]∧St e w_ [] [(false,.box 166 (Qc.repW u1 u2) v0 y1.2),(false,.slice 5 (Rep.int .u8) u1 y1.2.bytes),(false,.slice 3 (Rep.int .i64) u2 y1.2.wear)]) hF (λ s2 _ w4 hI hF=>?_) (λ j2 hj2 hF=>?_)
  ·obtain ⟨rfl,h7⟩:=hI
   refine Run.seq ?_
   refine Run.drawV (Ωs:=[(false,.slice 5 (Rep.int .u8) u1 y1.2.bytes),(false,.slice 3 (Rep.int .i64) u2 y1.2.wear)]) [.k 42 v0,.kr 43 v0 [0],.kr 44 (padd v0 1) [0],.kr 45 u1 [0],.k 46 (.int .i64 a1),.k 47 v0,.kr 48 v0 [0],.kr 49 (padd v0 0) [0],.kr 50 (.int .i64 y1.2.size) [0],.k 51 (.int .i64 (IntKind.i64.wrap (a1*y1.2.size))),.k 52 (.int .i64 a1),.k 53 (.int .i64 (IntKind.i64.wrap (a1+1))),.k 54 v0,.kr 55 v0 [0],.kr 56 (padd v0 0) [0],.kr 57 (.int .i64 y1.2.size) [0],.k 58 (.int .i64 (IntKind.i64.wrap ((IntKind.i64.wrap (a1+1))*y1.2.size)))] [[],[0],[1],[2],[],[],[5],[6],[7],[4,8],[],[10],[],[12],[13],[14],[11,15]] [[(false,.box 166 (Qc.repW u1 u2) v0 y1.2)]] [0,1,2,3,4,5,6,7,8,9,10,11,12,13,14,15,16,17] Qi rfl rfl rfl h7 (.cons ?_ (.cons ?_ (.cons ?_ (.cons ?_ (.cons ?_ (.cons ?_ (.cons ?_ (.cons ?_ (.cons ?_ (.cons ?_ (.cons ?_ (.cons ?_ (.cons ?_ (.cons ?_ (.cons ?_ (.cons ?_ (.cons ?_ .nil))))))))))))))))) (λ q1 w hq1 h=>?_)
   ·intro q1 w Γx Ωx h
    refine OpS.mv rfl rfl rfl ?_
    exact du h
   ·intro q1 w Γx Ωx h
    refine OpS.nchk h .z rfl rfl rfl ?_
    exact du h
   ·intro q1 w Γx Ωx h
    refine OpS.fbox (o3:=1) h .z PA.z Qiw rfl rfl rfl rfl ?_
    exact du h
   ·intro q1 w Γx Ωx h
    refine OpS.loadR h .z PA.a (GetS.ok (GetS.iso _ (GetS.there (GetS.here GetS.id)))) ty24 rfl rfl rfl rfl rfl ?_
    exact du h
   ·intro q1 w Γx Ωx h
    refine OpS.mv rfl rfl rfl ?_
    exact du h
   ·intro q1 w Γx Ωx h
    refine OpS.mv rfl rfl rfl ?_
    exact du h
   ·intro q1 w Γx Ωx h
    refine OpS.nchk h .z rfl rfl rfl ?_
    exact du h
   ·intro q1 w Γx Ωx h
    refine OpS.fbox (o3:=0) h .z PA.z Qpp rfl rfl rfl rfl ?_
    exact du h
   ·intro q1 w Γx Ωx h
    refine OpS.loadBi h .z PA.a (GetS.ok (GetS.iso _ (GetS.here GetS.id))) ty3 rfl rfl rfl ?_
    exact du h
   ·intro q1 w Γx Ωx h
    refine OpS.bin rfl rfl rfl rfl rfl ?_
    exact du h
   ·intro q1 w Γx Ωx h
    refine OpS.mv rfl rfl rfl ?_
    exact du h
   ·intro q1 w Γx Ωx h
    refine OpS.bin rfl rfl rfl rfl rfl ?_
    exact du h
   ·intro q1 w Γx Ωx h
    refine OpS.mv rfl rfl rfl ?_
    exact du h
   ·intro q1 w Γx Ωx h
    refine OpS.nchk h .z rfl rfl rfl ?_
    exact du h
   ·intro q1 w Γx Ωx h
    refine OpS.fbox (o3:=0) h .z PA.z Qpp rfl rfl rfl rfl ?_
    exact du h
   ·intro q1 w Γx Ωx h
    refine OpS.loadBi h .z PA.a (GetS.ok (GetS.iso _ (GetS.here GetS.id))) ty3 rfl rfl rfl ?_
    exact du h
   ·intro q1 w Γx Ωx h
    refine OpS.bin rfl rfl rfl rfl rfl ?_
    exact du h
   have h8:=h
   obtain ⟨e6,hF⟩:=Qr hF
   refine op (OpS.partS h8 (.s .z) Tryz.underlying24 ty5 rfl rfl rfl rfl rfl (of_decide_eq_true e6) ?_)
   refine ga rfl (nil (Run.seq (sr (gm rfl ?_))))
   obtain ⟨e7,hF⟩:=Qr hF
   refine op (OpS.lenP h8 (.s .z) (of_decide_eq_true e7) Tryz.underlying24 rfl rfl rfl ?_)
   refine gm rfl (nil (Run.block (Run.slim [(5,.bool y1.1),(6,.int .u8 s2),(7,(Lift.part (Rep.int .u8).n u1 ((IntKind.i64.wrap (a1*y1.2.size)):Int).toNat ((IntKind.i64.wrap ((IntKind.i64.wrap (a1+1))*y1.2.size)):Int).toNat)),(61,.int .i64 ((IntKind.i64.wrap ((IntKind.i64.wrap (a1+1))*y1.2.size))-(IntKind.i64.wrap (a1*y1.2.size)))),(62,.int .i64 0)] ⟨rfl,rfl,rfl,rfl,rfl,trivial⟩ ?_)))
   refine Run.loopP (σ:=(Int×Qc)) (λ s_ L_ w_=>L_=[(5,.bool y1.1),(6,.int .u8 s2),(7,(Lift.part (Rep.int .u8).n u1 ((IntKind.i64.wrap (a1*y1.2.size)):Int).toNat ((IntKind.i64.wrap ((IntKind.i64.wrap (a1+1))*y1.2.size)):Int).toNat)),(61,.int .i64 ((IntKind.i64.wrap ((IntKind.i64.wrap (a1+1))*y1.2.size))-(IntKind.i64.wrap (a1*y1.2.size)))),(62,.int .i64 s_.1)]∧St e w_ [] [(false,.box 166 (Qc.repW u1 u2) v0 s_.2),(false,.slice 5 (Rep.int .u8) u1 s_.2.bytes),(false,.slice 3 (Rep.int .i64) u2 s_.2.wear)]) hF ⟨rfl,(h8.facts .nil).picks (.cons .z (.cons .z (.cons .z .nil)))⟩ (λ k1 hk1 s3 _ w5 hI hF=>?_)
   obtain ⟨rfl,h9⟩:=hI
   refine sr (gb rfl (nil (Run.seq ?_)))
   refine Run.ite rfl hF (λ e8 hF=>?_) (λ e8 hF=>?_)
   ·refine Run.skip (Run.seq (Run.block (sr (gm rfl (ga rfl (nil (Run.reg (gm rfl (gm rfl ?_)))))))))
    obtain ⟨e9,hF⟩:=Qr hF
    obtain ⟨e10,hF⟩:=Qr hF
    obtain ⟨x2,e11,hF⟩:=Qa hF
    refine op (OpS.ipart h9 (.s .z) (of_decide_eq_true e9) (of_decide_eq_true e10) Tryz.underlying24 ty5 rfl rfl rfl rfl ?_)
    refine op (OpS.loadOi h9 (.s .z) (Qnl e11) PA.a (Get.arr e11) ty5 rfl rfl rfl ?_)
    refine gm rfl (gb rfl ?_)
    obtain ⟨e12,hF⟩:=Qr hF
    obtain ⟨e13,hF⟩:=Qr hF
    refine op (OpS.ipart h9 (.s .z) (of_decide_eq_true e12) (of_decide_eq_true e13) Tryz.underlying24 ty5 rfl rfl rfl rfl ?_)
    obtain ⟨d2,e14,hF⟩:=Qh hF
    refine op (OpS.storeO (f':=true) h9 (.s .z) (Qnl e11) PA.a (Put.of (Put.arr e11) e14) ty5 rfl rfl rfl V.int (.inr rfl) (λ w6 h10=>?_))
    refine nil (Run.endBlock (Run.reg (gb rfl (gm rfl (nil ?_)))))
    have h11:=St.boxJ (r':=(Qc.repW u1 u2)) (x':={ { s3.2 with bytes:=d2 } with wear:=s3.2.wear }) (h10.pick (.s .z)) (λ _ _ hs_=>(Jn.iso _ (Jn.prod Jn.refl (Jn.prod Jn.same (Jn.prod Jn.same Jn.refl)))))
    have h12:=St.boxJ (r':=(Qc.repW u1 u2)) (x':={ { { { s3.2 with bytes:=d2 } with wear:=s3.2.wear } with bytes:=d2 } with wear:=s3.2.wear }) (h11.pick .z) (λ _ _ hs_=>(Jn.iso _ (Jn.prod Jn.refl (Jn.prod Jn.same (Jn.prod Jn.same Jn.refl)))))
    refine Run.slim [(5,.bool y1.1),(6,.int .u8 s2),(7,(Lift.part (Rep.int .u8).n u1 ((IntKind.i64.wrap (a1*y1.2.size)):Int).toNat ((IntKind.i64.wrap ((IntKind.i64.wrap (a1+1))*y1.2.size)):Int).toNat)),(61,.int .i64 ((IntKind.i64.wrap ((IntKind.i64.wrap (a1+1))*y1.2.size))-(IntKind.i64.wrap (a1*y1.2.size)))),(62,.int .i64 (IntKind.i64.wrap (s3.1+1)))] ⟨rfl,rfl,rfl,rfl,rfl,trivial⟩ ?_
    exact hk1 ((IntKind.i64.wrap (s3.1+1)),{ { { { s3.2 with bytes:=d2 } with wear:=s3.2.wear } with bytes:=d2 } with wear:=s3.2.wear }) _ _ ⟨rfl,(h12.facts .nil).picks (.cons .z (.cons .z (.cons .z .nil)))⟩ hF
   refine Run.exit rfl ?_
   refine Run.seq (sr (gm rfl (nil ?_)))
   refine Run.ite rfl hF (λ e15 hF=>?_) (λ e15 hF=>?_)
   ·refine sr (ga rfl (nil (Run.retP rfl (.tmp rfl .nil) ?_)))
    cases hF
    exact Post.mk' ⟨u1,u2,rfl,rfl,rfl,rfl⟩ (h9.picks (.cons .z (.cons .z (.cons .z .nil)))) .nil
   refine Run.skip (sr (ga rfl (nil (Run.retP rfl (.tmp rfl .nil) ?_))))
   cases hF
   exact Post.mk' ⟨u1,u2,rfl,rfl,rfl,rfl⟩ (h9.picks (.cons .z (.cons .z (.cons .z .nil)))) .nil
  refine Run.ite rfl hF (λ e16 hF=>?_) (λ e16 hF=>?_)
  ·refine Run.reg (gm rfl (op (OpS.nchk h6 .z rfl rfl rfl ?_)))
   refine op (OpS.fbox (o3:=5) h6 .z PA.z Qpt rfl rfl rfl rfl ?_)
   refine op (OpS.loadBi h6 .z PA.a (GetS.ok (GetS.iso _ (GetS.there (GetS.there (GetS.there (GetS.there (GetS.there (GetS.here GetS.id)))))))) ty5 rfl rfl rfl ?_)
   refine ga rfl (nil (Run.slim [(0,v0),(1,.int .i64 a1),(5,.bool y1.1),(6,.int .u8 y1.2.torn)] ⟨rfl,rfl,rfl,rfl,trivial⟩ ?_))
   exact hj2 (y1.2.torn) _ _ ⟨rfl,(h6.facts .nil).picks (.cons .z (.cons .z (.cons .z .nil)))⟩ hF
  refine Run.skip (Run.slim [(0,v0),(1,.int .i64 a1),(5,.bool y1.1),(6,.int .u8 255)] ⟨rfl,rfl,rfl,rfl,trivial⟩ ?_)
  exact hj2 (255) _ _ ⟨rfl,(h6.facts .nil).picks (.cons .z (.cons .z (.cons .z .nil)))⟩ hF
 refine RunL.caseb hF (λ e17 hF=>?_) (λ e17 hF=>?_)
 ·refine gp rfl (gp rfl (gp rfl (gp rfl (gp rfl (gp rfl (gp rfl (gk rfl (ga rfl (nil (Run.slim [(0,v0),(1,.int .i64 a1),(14,.bool true)] ⟨rfl,rfl,rfl,trivial⟩ ?_))))))))))
  exact hj1 (true) _ _ ⟨rfl,(h.facts .nil).picks (.cons .z (.cons .z (.cons .z .nil)))⟩ hF
 refine gm rfl (gm rfl (op (OpS.nchk h .z rfl rfl rfl ?_)))
 refine op (OpS.fbox (o3:=2) h .z PA.z Qpr rfl rfl rfl rfl ?_)
 refine op (OpS.loadR h .z PA.a (GetS.ok (GetS.iso _ (GetS.there (GetS.there (GetS.here GetS.id))))) ty22 rfl rfl rfl rfl rfl ?_)
 refine op (OpS.lenO h (.s (.s .z)) Tryz.underlying22 rfl rfl rfl ?_)
 refine gb rfl (gk rfl (ga rfl ?_))
 obtain ⟨x3,e18,hF⟩:=Qh hF
 refine RunL.nameb e18 ?_
 refine nil (Run.slim [(0,v0),(1,.int .i64 a1),(14,.bool x3)] ⟨rfl,rfl,rfl,trivial⟩ ?_)
 exact hj1 (x3) _ _ ⟨rfl,(h.facts .nil).picks (.cons .z (.cons .z (.cons .z .nil)))⟩ hF
theorem Qic {fuel:Nat} {a0:Int} {y:(List Int)} (hF:Qcv fuel a0=some y) {w:World} :
  Spec Tryz.prog 208 [.int .i64 a0].toArray w [] [] (λ v Γr Ωr Ωo=>∃ u0:Value,v=u0∧Γr=[]∧Ωr=[(true,(.slice 5 (Rep.int .u8) u0 y))]∧Ωo=[]):=by
 refine Spec.of (L:=[(0,.int .i64 a0)]) Tryz.func208 rfl ⟨rfl,trivial⟩ rfl (λ e h=>?_)
 unfold Qcv at hF
 refine sr (ga rfl (nil (sr (gm rfl (op (OpS.conv Tryz.underlying3 Tryz.underlying5 rfl rfl rfl ?_))))))
 refine gm rfl (op (OpS.shr rfl rfl rfl rfl (by decide) ?_))
 refine op (OpS.conv Tryz.underlying3 Tryz.underlying5 rfl rfl rfl ?_)
 refine gm rfl (op (OpS.shr rfl rfl rfl rfl (by decide) ?_))
 refine op (OpS.conv Tryz.underlying3 Tryz.underlying5 rfl rfl rfl ?_)
 refine gm rfl (op (OpS.shr rfl rfl rfl rfl (by decide) ?_))
 refine op (OpS.conv Tryz.underlying3 Tryz.underlying5 rfl rfl rfl ?_)
 refine op (OpS.litO (r:=(Rep.int .u8)) (f:=true) h Tryz.underlying24 ti5 rfl rfl rfl rfl rfl (.cons rfl V.int (.cons rfl V.int (.cons rfl V.int (.cons rfl V.int .nil)))) rfl rfl (λ u1 w1 h1=>?_))
 refine ga rfl (nil (Run.retP rfl (.tmp rfl .nil) ?_))
 cases hF
 exact Post.mk' ⟨u1,rfl,rfl,rfl,rfl⟩ (h1.picks (.cons .z .nil)) .nil
set_option maxRecDepth 20000 in
theorem Qdz {fuel:Nat} {a0:Qc} {a1:Int} {a2:List Int} {y:Int×Qc} (hF:Qao fuel a0 a1 a2=some y) {w:World} {v0 v0_0 v0_1 v2:Value} :
  Spec Tryz.prog 88 [v0,.int .i64 a1,v2].toArray w [(false,.val (Rep.slice (Rep.int .u8)) v2 a2)] [(false,.box 166 (Qc.repW v0_0 v0_1) v0 a0),(false,.slice 5 (Rep.int .u8) v0_0 a0.bytes),(false,.slice 3 (Rep.int .i64) v0_1 a0.wear)] (λ v Γr Ωr Ωo=>∃ w0_0 w0_1:Value,v=.int .i64 y.1∧Γr=[]∧Ωr=[]∧Ωo=[(false,.box 166 (Qc.repW w0_0 w0_1) v0 y.2),(false,(.slice 5 (Rep.int .u8) w0_0 y.2.bytes)),(false,(.slice 3 (Rep.int .i64) w0_1 y.2.wear))]):=by
 refine Spec.of (L:=[(0,v0),(1,.int .i64 a1),(2,v2)]) Tryz.func88 rfl ⟨rfl,rfl,rfl,trivial⟩ rfl (λ e h=>?_)
 unfold Qao at hF
 refine sr (ga rfl (nil (Run.seq (Run.block (sr (gm rfl (op (OpS.nchk h .z rfl rfl rfl ?_))))))))
 refine op (OpS.fbox (o3:=6) h .z PA.z Qgc rfl rfl rfl rfl ?_)
 refine op (OpS.loadBb h .z PA.a (GetS.ok (GetS.iso _ (GetS.there (GetS.there (GetS.there (GetS.there (GetS.there (GetS.there (GetS.here GetS.id))))))))) ty4 rfl rfl rfl ?_)
 refine ga rfl (nil ?_)
 refine Run.ite rfl hF (λ e1 hF=>?_) (λ e1 hF=>?_)
 ·refine sr (ga rfl (nil (Run.retP rfl (.tmp rfl .nil) ?_)))
  cases hF
  exact Post.mk' ⟨v0_0,v0_1,rfl,rfl,rfl,rfl⟩ (h.picks (.cons .z (.cons .z (.cons .z .nil)))) .nil
 refine sr (gm rfl (gm rfl (gm rfl (op (OpS.len h Tryz.underlying24 rfl rfl rfl (V.at .z) ?_)))))
 obtain ⟨y1,e2,hF⟩:=Qa hF
 have h1:=h.front (.cons .z (.cons .z (.cons .z .nil)))
 refine op (OpS.callO h1 Tryz.func144 rfl rfl rfl rfl (vs:=[v0,.int .i64 a1,.int .i64 (a2.length:Int)]) rfl (Qgk e2) rfl .nil ?_)
 rintro _ w1 _ _ _ ⟨rfl,rfl,rfl,rfl⟩ h2
 have h3:=h2
 simp only [ca,na] at h3
 refine op (OpS.not rfl rfl rfl ?_)
 refine ga rfl ?_
 obtain ⟨x1,e3,hF⟩:=Qh hF
 refine RunL.nameb e3 ?_
 refine nil ?_
 refine Run.ite rfl hF (λ e4 hF=>?_) (λ e4 hF=>?_)
 ·refine sr (ga rfl (nil (Run.retP rfl (.tmp rfl .nil) ?_)))
  cases hF
  exact Post.mk' ⟨v0_0,v0_1,rfl,rfl,rfl,rfl⟩ (h3.picks (.cons .z (.cons .z (.cons .z .nil)))) .nil
 refine Run.skip (Run.endBlock (Run.seq (sr (gm rfl (op (OpS.len h3 Tryz.underlying24 rfl rfl rfl (V.at .z) ?_))))))
 refine gm rfl (nil (Run.block (Run.slim [(0,v0),(1,.int .i64 a1),(21,v2),(22,.int .i64 (a2.length:Int)),(23,.int .i64 0)] ⟨rfl,rfl,rfl,rfl,rfl,trivial⟩ ?_)))
 refine Run.loopP (σ:=(Int×Qc)) (λ s_ L_ w_=>∃ u0_ u1_:Value,L_=[(0,v0),(1,.int .i64 a1),(21,v2),(22,.int .i64 (a2.length:Int)),(23,.int .i64 s_.1)]∧St e w_ [(false,.val (Rep.slice (Rep.int .u8)) v2 a2)] [(false,.box 166 (Qc.repW u0_ u1_) v0 s_.2),(false,.slice 5 (Rep.int .u8) u0_ s_.2.bytes),(false,.slice 3 (Rep.int .i64) u1_ s_.2.wear)]) hF ⟨v0_0,v0_1,rfl,(h3.facts (.atm .z .nil)).picks (.cons .z (.cons .z (.cons .z .nil)))⟩ (λ k1 hk1 s1 _ w2 hI hF=>?_)
 obtain ⟨u1,u2,rfl,h4⟩:=hI
 refine sr (gb rfl (nil (Run.seq ?_)))
 refine Run.ite rfl hF (λ e5 hF=>?_) (λ e5 hF=>?_)
 ·refine Run.skip (Run.seq (Run.block (sr (gm rfl ?_))))
  obtain ⟨x2,e6,hF⟩:=Qa hF
  refine op (OpS.iptr h4 Tryz.underlying24 ty5 rfl rfl rfl rfl (V.at .z) e6 (λ u3 h5=>?_))
  refine op (OpS.loadi h5 ty5 rfl rfl rfl .z ?_)
  refine ga rfl (ga rfl (nil (Run.seq (sr (gm rfl ?_)))))
  obtain ⟨y2,e7,hF⟩:=Qa hF
  have h6:=h5.front (.cons .z (.cons .z (.cons .z .nil)))
  refine op (OpS.callO h6 Tryz.func157 rfl rfl rfl rfl (vs:=[v0]) rfl (Qhg e7) rfl .nil ?_)
  rintro _ w3 _ _ _ ⟨u4,u5,rfl,rfl,rfl,rfl⟩ h7
  have h8:=h7
  simp only [ca,na] at h8
  refine nil ?_
  refine Run.ite rfl hF (λ e8 hF=>?_) (λ e8 hF=>?_)
  ·refine Run.seq ?_
   obtain ⟨x3,e9,hF⟩:=Qa hF
   refine Run.drawV (Ωs:=[(false,.slice 3 (Rep.int .i64) u5 y2.2.wear)]) [.k 30 v0,.kr 31 v0 [0],.kr 32 (padd v0 1) [0],.kr 33 u4 [0],.k 34 (.int .i64 a1),.k 35 (.int .i64 s1.1),.k 36 (.int .i64 (IntKind.i64.wrap (a1+s1.1))),.kr 37 (padd (sp u4) (((IntKind.i64.wrap (a1+s1.1)):Int).toNat*(Rep.int .u8).n)) [1],.kr 38 (.int .u8 x3) [1],.k 39 (.int .u8 x2),.k 40 v0,.kr 41 v0 [0],.kr 42 (padd v0 5) [0],.kr 43 (.int .u8 y2.2.torn) [0],.k 44 (.int .u8 (bOr .u8 x2 y2.2.torn))] [[],[0],[1],[2],[],[],[4,5],[3,6],[7],[],[],[10],[11],[12],[9,13]] [[(false,.box 166 (Qc.repW u4 u5) v0 y2.2)],[(false,.slice 5 (Rep.int .u8) u4 y2.2.bytes)]] [0,1,2,3,4,5,6,7,8,9,10,11,12,13,14,15,16] Qi rfl rfl rfl h8 (.cons ?_ (.cons ?_ (.cons ?_ (.cons ?_ (.cons ?_ (.cons ?_ (.cons ?_ (.cons ?_ (.cons ?_ (.cons ?_ (.cons ?_ (.cons ?_ (.cons ?_ (.cons ?_ (.cons ?_ .nil))))))))))))))) (λ q1 w hq1 h=>?_)
   ·intro q1 w Γx Ωx h
    refine OpS.mv rfl rfl rfl ?_
    exact du h
   ·intro q1 w Γx Ωx h
    refine OpS.nchk h .z rfl rfl rfl ?_
    exact du h
   ·intro q1 w Γx Ωx h
    refine OpS.fbox (o3:=1) h .z PA.z Qiw rfl rfl rfl rfl ?_
    exact du h
   ·intro q1 w Γx Ωx h
    refine OpS.loadR h .z PA.a (GetS.ok (GetS.iso _ (GetS.there (GetS.here GetS.id)))) ty24 rfl rfl rfl rfl rfl ?_
    exact du h
   ·intro q1 w Γx Ωx h
    refine OpS.mv rfl rfl rfl ?_
    exact du h
   ·intro q1 w Γx Ωx h
    refine OpS.mv rfl rfl rfl ?_
    exact du h
   ·intro q1 w Γx Ωx h
    refine OpS.bin rfl rfl rfl rfl rfl ?_
    exact du h
   ·intro q1 w Γx Ωx h
    refine OpS.iown h .z Tryz.underlying24 ty5 rfl rfl rfl rfl e9 ?_
    exact du h
   ·intro q1 w Γx Ωx h
    refine OpS.loadOi h .z (Qnl e9) PA.a (Get.arr e9) ty5 rfl rfl rfl ?_
    exact du h
   ·intro q1 w Γx Ωx h
    refine OpS.mv rfl rfl rfl ?_
    exact du h
   ·intro q1 w Γx Ωx h
    refine OpS.mv rfl rfl rfl ?_
    exact du h
   ·intro q1 w Γx Ωx h
    refine OpS.nchk h .z rfl rfl rfl ?_
    exact du h
   ·intro q1 w Γx Ωx h
    refine OpS.fbox (o3:=5) h .z PA.z Qpt rfl rfl rfl rfl ?_
    exact du h
   ·intro q1 w Γx Ωx h
    refine OpS.loadBi h .z PA.a (GetS.ok (GetS.iso _ (GetS.there (GetS.there (GetS.there (GetS.there (GetS.there (GetS.here GetS.id)))))))) ty5 rfl rfl rfl ?_
    exact du h
   ·intro q1 w Γx Ωx h
    refine OpS.bin rfl rfl rfl rfl rfl ?_
    exact du h
   have h9:=h
   refine gb rfl (op (OpS.iown h9 (.s .z) Tryz.underlying24 ty5 rfl rfl rfl rfl e9 ?_))
   obtain ⟨d1,e10,hF⟩:=Qh hF
   refine op (OpS.storeO (f':=true) h9 (.s .z) (Qnl e9) PA.a (Put.of (Put.arr e9) e10) ty5 rfl rfl rfl V.int (.inr rfl) (λ w4 h10=>?_))
   refine nil (sr (ga rfl (nil ?_)))
   have h11:=St.boxJ (r':=(Qc.repW u4 u5)) (x':={ { y2.2 with bytes:=d1 } with wear:=y2.2.wear }) (h10.pick (.s .z)) (λ _ _ hs_=>(Jn.iso _ (Jn.prod Jn.refl (Jn.prod Jn.same (Jn.prod Jn.same Jn.refl)))))
   refine Run.retP rfl (.tmp rfl .nil) ?_
   cases hF
   exact Post.mk' ⟨u4,u5,rfl,rfl,rfl,rfl⟩ (h11.picks (.cons .z (.cons .z (.cons .z .nil)))) .nil
  refine Run.skip (Run.reg (gm rfl (op (OpS.nchk h8 .z rfl rfl rfl ?_))))
  refine op (OpS.fbox (o3:=1) h8 .z PA.z Qiw rfl rfl rfl rfl ?_)
  refine op (OpS.loadR h8 .z PA.a (GetS.ok (GetS.iso _ (GetS.there (GetS.here GetS.id)))) ty24 rfl rfl rfl rfl rfl ?_)
  refine gm rfl (gm rfl (gb rfl ?_))
  obtain ⟨x4,e11,hF⟩:=Qa hF
  refine op (OpS.iown h8 (.s .z) Tryz.underlying24 ty5 rfl rfl rfl rfl e11 ?_)
  refine op (OpS.loadOi h8 (.s .z) (Qnl e11) PA.a (Get.arr e11) ty5 rfl rfl rfl ?_)
  refine gm rfl (gb rfl (op (OpS.iown h8 (.s .z) Tryz.underlying24 ty5 rfl rfl rfl rfl e11 ?_)))
  obtain ⟨d2,e12,hF⟩:=Qh hF
  refine op (OpS.storeO (f':=true) h8 (.s .z) (Qnl e11) PA.a (Put.of (Put.arr e11) e12) ty5 rfl rfl rfl V.int (.inr rfl) (λ w5 h12=>?_))
  refine nil (Run.endBlock (Run.reg (gb rfl (gm rfl (nil ?_)))))
  have h13:=St.boxJ (r':=(Qc.repW u4 u5)) (x':={ { y2.2 with bytes:=d2 } with wear:=y2.2.wear }) (h12.pick (.s .z)) (λ _ _ hs_=>(Jn.iso _ (Jn.prod Jn.refl (Jn.prod Jn.same (Jn.prod Jn.same Jn.refl)))))
  have h14:=St.boxJ (r':=(Qc.repW u4 u5)) (x':={ { { { y2.2 with bytes:=d2 } with wear:=y2.2.wear } with bytes:=d2 } with wear:=y2.2.wear }) (h13.pick .z) (λ _ _ hs_=>(Jn.iso _ (Jn.prod Jn.refl (Jn.prod Jn.same (Jn.prod Jn.same Jn.refl)))))
  refine Run.slim [(0,v0),(1,.int .i64 a1),(21,v2),(22,.int .i64 (a2.length:Int)),(23,.int .i64 (IntKind.i64.wrap (s1.1+1)))] ⟨rfl,rfl,rfl,rfl,rfl,trivial⟩ ?_
  exact hk1 ((IntKind.i64.wrap (s1.1+1)),{ { { { y2.2 with bytes:=d2 } with wear:=y2.2.wear } with bytes:=d2 } with wear:=y2.2.wear }) _ _ ⟨u4,u5,rfl,(h14.facts (.atm (.s .z) .nil)).picks (.cons .z (.cons .z (.cons .z .nil)))⟩ hF
 refine Run.exit rfl ?_
 refine sr (ga rfl (nil (Run.retP rfl (.tmp rfl .nil) ?_)))
 cases hF
 exact Post.mk' ⟨u1,u2,rfl,rfl,rfl,rfl⟩ (h4.picks (.cons .z (.cons .z (.cons .z .nil)))) .nil
theorem Qfv {fuel:Nat} {a0:Qe} {a1:Int} {y:Bool} (hF:Qbv fuel a0 a1=some y) {w:World} {v0 v1:Value} :
  Spec Tryz.prog 210 [v0,v1].toArray w [(false,.val Qe.rep v0 a0),(false,.ptr (Rep.int .i64) v1 a1)] [] (λ v Γr Ωr Ωo=>v=.bool y∧Γr=[]∧Ωr=[]∧Ωo=[]):=by
 refine Spec.of (L:=[(0,v0),(1,v1)]) Tryz.func210 rfl ⟨rfl,rfl,trivial⟩ rfl (λ e h=>?_)
 unfold Qbv at hF
 refine sr (op (OpS.boxF h rfl rfl rfl (V.at .z) (λ u1 w1 h1=>?_)))
 refine ga rfl (nil (sr (op (OpS.fbox (o3:=0) h1 .z PA.z fa200_0 rfl rfl rfl rfl ?_))))
 refine op (OpS.loadBi h1 .z PA.a (Get.fld Qe.f0) ty3 rfl rfl rfl ?_)
 refine op (OpS.loadi h1 ty3 rfl rfl rfl (.s .z) ?_)
 refine gb rfl (ga rfl ?_)
 obtain ⟨x1,e1,hF⟩:=Qh hF
 refine RunL.nameb e1 ?_
 refine nil (Run.retP rfl (.tmp rfl .nil) ?_)
 cases hF
 exact Post.mk' ⟨rfl,rfl,rfl,rfl⟩ (h1.picks .nil) .nil
end Lift
