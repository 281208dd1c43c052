import Derived.Test.YtahlmfpllhmjoaaGreatDoorHef
import Derived.Test.YtahlmfpllhmjoaaGreatDoorHea
import Derived.Test.YtahlmfpllhmjoaaGreatDoorTopm
set_option linter.unusedVariables false
set_option linter.unusedSimpArgs false
namespace Lift
open Go
theorem byte.u16 {a:Int} (h:byte a):u16 a:=⟨h.1,by have:=h.2;omega⟩
theorem Qvu (x:BitVec IntKind.u8.bits) (i:Nat):bit (IntKind.u8.wrap (x.toNat:Int)) i=x.getLsbD i:=by
  have hx:x.toNat<256:=x.isLt
  rw [w_u8,Int.emod_eq_of_lt (by omega) (by omega)]
  simp only [bit,Int.toNat_natCast,BitVec.testBit_toNat]
theorem Qne {a:Int} (h:byte a) (i:Nat):(BitVec.ofInt IntKind.u8.bits a).getLsbD i=bit a i:=by
  obtain ⟨n,rfl,hn⟩:=h.nat
  have hp:2 ^ IntKind.u8.bits=256:=rfl
  rw [← BitVec.testBit_toNat,Qeg,hp,Nat.mod_eq_of_lt hn]
  simp [bit]
theorem andnot8 {a b:Int} (ha:byte a) (hb:byte b) (h:sub16 a b):bAndNot .u8 a b=0:=by
  have h1:byte (bAndNot .u8 a b):=Qha _
  refine Qtm h1 (λ i=>?_)
  unfold bAndNot
  rw [Qvu,BitVec.getLsbD_and,BitVec.getLsbD_not,Qne ha,Qne hb]
  cases ha2:bit a i
  · rfl
  · rw [h i ha2];simp
def bts (s:Sensor_):Int:=if s.Discrete=true then s.States else s.Limits.Mask
def nb (s:Sensor_):Nat:=if s.Discrete=true then 15 else 6
structure WS (s:Sensor_):Prop where
  fs:∃ n,byte n∧FS n s
  as:s.Assert=bts s
  de:s.Deassert=bts s
theorem Qhy {a:Int} {k:Nat} (h0:0≤a) (h1:a<2 ^ k) {i:Nat} (h:bit a i=true):i<k:=by
  obtain ⟨n,rfl⟩:=Int.eq_ofNat_of_zero_le h0
  refine Classical.byContradiction (λ hk=>?_)
  simp only [bit,Int.toNat_natCast] at h
  have hn:n<2 ^ k:=by exact_mod_cast h1
  rw [Nat.testBit_lt_two_pow (Nat.lt_of_lt_of_le hn (Nat.pow_le_pow_right (by omega) (by omega)))] at h
  cases h
theorem Quv {a:Int} {k:Nat} (h0:0≤a) (h:∀ i,bit a i=true→i<k):a<2 ^ k:=by
  obtain ⟨n,rfl⟩:=Int.eq_ofNat_of_zero_le h0
  have:n<2 ^ k:=Nat.lt_pow_two_of_testBit n (λ i hi=>by
    cases hb:n.testBit i
    · rfl
    · have:=h i (by simpa [bit] using hb);omega)
  exact_mod_cast this
theorem FS.bts {n:Int} {s:Sensor_} (h:FS n s):u16 (bts s)∧∀ i,bit (bts s) i=true→i<nb s:=by
  unfold Lift.bts nb
  cases hd:s.Discrete
  · obtain ⟨_,lv,_⟩:=h.ana hd
    have m0:=lv.m0
    have m1:=lv.m1
    simp only [Bool.false_eq_true,if_false]
    exact ⟨⟨m0,by omega⟩,λ i hi=>Qhy m0 (by omega) hi⟩
  · obtain ⟨_,_,_,_,_,h6,_⟩:=h.dis hd
    have hw:=h.words.1
    simp only [if_true]
    exact ⟨hw,λ i hi=>Qhy hw.1 (by omega) hi⟩
theorem Qtb (fuel:Nat) {n:Int} {s:Sensor_} (h:FS n s):∃ w,Qex fuel s=some w∧u16 w∧∀ i,bit w i=bit (bts s) i:=by
  unfold Qex
  refine ⟨_,rfl,Qek _,λ i=>?_⟩
  have hw:=h.words.1
  rw [(or16 hw (Qek _)).2]
  unfold bts
  cases hd:s.Discrete
  · obtain ⟨_,lv,h3,_⟩:=h.ana hd
    have m0:=lv.m0
    have m1:=lv.m1
    have:IntKind.u16.wrap s.Limits.Mask=s.Limits.Mask:=by rw [w_u16];omega
    simp only [Bool.false_eq_true,if_false]
    rw [this,h3,Qfc];rfl
  · obtain ⟨_,h2,_⟩:=h.dis hd
    simp only [if_true]
    rw [h2,show IntKind.u16.wrap Thresholds_.z.Mask=0 by decide,Qfc,Bool.or_false]
theorem Qwl {fuel:Nat} (hf:100<fuel) {s:Sensor_} (h:LV s.Conversion.Signed s.Limits) {st q:Int} (hs:byte st) (hq:byte q):Ev (Qeu fuel s st q) (λ y=>byte y∧sub16 y s.Limits.Mask):=by
  unfold Qeu
  refine Ev.loop (λ (n:Nat) (x:Int×Int)=>∃ i:Nat,x.2=i∧i+n=6∧byte x.1∧sub16 x.1 s.Limits.Mask) (λ n x hI self hself=>?_) (n:=6) (by omega) ⟨0,rfl,rfl,by unfold byte;decide,λ j hj=>by simp only [Qfc] at hj;cases hj⟩
  obtain ⟨acc,pos⟩:=x
  obtain ⟨i,i1,i2,i3,i4⟩:=hI
  simp only at i1 i3 i4 ⊢
  subst i1
  refine Ev.dec (λ hlt=>Ev.chk (by simp) (Ev.letP (Ev.bind (Qvi fuel h hq (by omega)) (λ y1 h1=>?_)))) (λ hge=>Ev.ret ⟨i3,i4⟩)
  obtain ⟨x1b,x1e⟩:=sel_ok (i:=(i:Int)) (by omega) (by omega) h.mask
  rw [w_inc (by omega)]
  refine Ev.join (λ _=>True) (λ b hb=>?_) (λ j hj=>Ev.dec (λ _=>hj _ trivial) (λ _=>Ev.ite (λ _=>hj _ trivial) (λ _=>hj _ trivial)))
  refine Ev.ite (λ _=>hself (n-1) _ (by omega) ?_) (λ _=>hself (n-1) _ (by omega) ⟨i+1,rfl,by omega,i3,i4⟩)
  obtain ⟨ob,oe⟩:=or_ok i3 x1b
  refine ⟨i+1,rfl,by omega,ob,λ j hj=>?_⟩
  simp only at hj
  rw [oe,x1e] at hj
  rcases Bool.or_eq_true_iff.1 hj with hj | hj
  · exact i4 j hj
  · rw [Bool.and_eq_true] at hj;exact hj.2
theorem Qwn {fuel:Nat} (hf:100<fuel) {n:Int} {s:Sensor_} (h:FS n s) (hd:s.Discrete=false) {st q:Int} (hs:byte st) (hsub:sub16 st s.Limits.Mask) (hq:byte q):Ev (Qem fuel s st q) (λ y=>byte y.1∧sub16 y.1 s.Limits.Mask∧y.2.1=diff st y.1 6):=by
  unfold Qem
  obtain ⟨_,lv,_⟩:=h.ana hd
  have ha:=(h.av hd).analog (fuel:=fuel) hf
  have tan:Qdr fuel s=some true:=by
    apply Ev.isTrue
    unfold Qdr
    exact Ev.iteT (by rw [hd];rfl) (Ev.to (h.valid hf) (Ev.ret rfl))
  refine Ev.to tan (Ev.letE (c:=false) rfl (Ev.iteF rfl (Ev.letE (c:=false) (by rw [andnot8 hs lv.mask hsub];rfl) (Ev.iteF rfl (Ev.bind (Qwl hf lv hs hq) (λ y2 h2=>?_))))))
  obtain ⟨b2,s2⟩:=h2
  obtain ⟨xb,xe⟩:=xor_ok hs b2
  refine Ev.loop (λ (n:Nat) (x:Int×List Change_)=>∃ i:Nat,x.1=i∧i+n=6∧x.2=diff st y2 i) (λ n x hI self hself=>?_) (n:=6) (by omega) ⟨0,rfl,rfl,rfl⟩
  obtain ⟨pos,l⟩:=x
  obtain ⟨i,i1,i2,i3⟩:=hI
  simp only at i1 i3 ⊢
  subst i1;subst i3
  refine Ev.dec (λ hlt=>Ev.chk (by simp) ?_) (λ hge=>Ev.ret ⟨b2,s2,by rw [show i=6 by omega]⟩)
  have o1:=Qpi xb (i:=(i:Int)) (by omega) (by omega)
  have o2:=Qpi b2 (i:=(i:Int)) (by omega) (by omega)
  simp only [Int.toNat_natCast,xe] at o1 o2
  rw [o1,o2,w_inc (by omega)]
  have hl:=Qoz st y2 i
  have hsucc:=Qlo st y2 i
  have hbit:((if bit y2 i=true then (1:Int) else 0)==1)=bit y2 i:=by cases bit y2 i<;>rfl
  by_cases c:(bit st i != bit y2 i)=true
  · rw [if_pos c] at hsucc
    rw [if_pos c,hbit]
    exact Ev.iteT rfl (Ev.chk (by simp) (Ev.app (by simp;omega) (hself (n-1) _ (by omega) ⟨i+1,rfl,by omega,hsucc.symm⟩)))
  · rw [if_neg c] at hsucc
    rw [if_neg c]
    exact Ev.iteF rfl (hself (n-1) _ (by omega) ⟨i+1,rfl,by omega,by rw [hsucc];simp⟩)
theorem Qwd {fuel:Nat} (hf:100<fuel) {n:Int} {s:Sensor_} (h:FS n s) (hd:s.Discrete=true) {a b:Int} (ha:u16 a) (hb:u16 b) (sa:sub16 a s.States) (sb:sub16 b s.States):Ev (Qfj fuel s a b) (λ y=>y.1=b∧y.2.1=diff a b 15):=by
  unfold Qfj
  obtain ⟨ob,oe⟩:=or16 ha hb
  have hz:bAndNot .u16 (bOr .u16 a b) s.States=0:=(Qoj ob h.words.1).2 (λ i hi=>by
    rw [oe] at hi
    rcases Bool.or_eq_true_iff.1 hi with hi | hi
    · exact sa i hi
    · exact sb i hi)
  refine Ev.join (λ v=>v=false) (λ v hv=>Ev.iteF hv (Ev.letE (c:=false) (by rw [hz];rfl) (Ev.iteF rfl ?_))) (λ j hj=>Ev.iteF (by rw [hd];rfl) (Ev.to (h.valid hf) (Ev.letP (hj _ rfl))))
  obtain ⟨xb,xe⟩:=xor16 ha hb
  refine Ev.loop (λ (n:Nat) (x:Int×List Change_)=>∃ i:Nat,x.1=i∧i+n=15∧x.2=diff a b i) (λ n x hI self hself=>?_) (n:=15) (by omega) ⟨0,rfl,rfl,rfl⟩
  obtain ⟨pos,l⟩:=x
  obtain ⟨i,i1,i2,i3⟩:=hI
  simp only at i1 i3 ⊢
  subst i1;subst i3
  refine Ev.dec (λ hlt=>Ev.chk (by simp) ?_) (λ hge=>Ev.ret ⟨rfl,by rw [show i=15 by omega]⟩)
  have o1:=Qon xb.1 (by have:=xb.2;omega) (i:=(i:Int)) (by omega) (by omega)
  have o2:=Qon hb.1 (by have:=hb.2;omega) (i:=(i:Int)) (by omega) (by omega)
  simp only [Int.toNat_natCast,xe] at o1 o2
  rw [o1,o2,w_inc (by omega)]
  have hl:=Qoz a b i
  have hsucc:=Qlo a b i
  have hbit:((if bit b i=true then (1:Int) else 0)==1)=bit b i:=by cases bit b i<;>rfl
  by_cases c:(bit a i != bit b i)=true
  · rw [if_pos c] at hsucc
    rw [if_pos c,hbit]
    exact Ev.iteT rfl (Ev.chk (by simp) (Ev.app (by simp;omega) (hself (n-1) _ (by omega) ⟨i+1,rfl,by omega,hsucc.symm⟩)))
  · rw [if_neg c] at hsucc
    rw [if_neg c]
    exact Ev.iteF rfl (hself (n-1) _ (by omega) ⟨i+1,rfl,by omega,by rw [hsucc];simp⟩)
theorem Qqg (a:Int) (n:Nat):diff a a n=[]:=by simp [diff]
structure MW (S:List Sensor_) (A:List Association_) (m:Qd):Prop where
  s:m.sensors=S
  l:m.l=A
  fl:m.filters.length=S.length
  ft:∀ F∈m.filters,FT F
  sl:m.states.length=S.length
  st:∀ (i:Nat) v s,m.states[i]?=some v→S[i]?=some s→u16 v∧sub16 v (bts s)
theorem MW.put {S:List Sensor_} {A:List Association_} {m:Qd} (h:MW S A m) {i:Nat} {s:Sensor_} (hs:S[i]?=some s) {F:List Filter_} (hl:F.length=S.length) (hF:∀ G∈F,FT G) {v:Int} (hv:u16 v∧sub16 v (bts s)):MW S A ⟨m.sensors,m.l,F,upd m.states (i:Int) v⟩:=by
  refine ⟨h.s,h.l,hl,hF,by simp only [Qgx];exact h.sl,λ j w t hw ht=>?_⟩
  simp only [upd,Int.toNat_natCast,List.getElem?_set] at hw
  by_cases c:i=j
  · subst c
    rw [hs] at ht
    obtain rfl:=Option.some.inj ht
    rw [if_pos rfl] at hw
    split at hw
    · obtain rfl:=Option.some.inj hw;exact hv
    · cases hw
  · rw [if_neg c] at hw;exact h.st j w t hw ht
theorem Qwg {fuel:Nat} (hf:100<fuel) {S:List Sensor_} {A:List Association_} {m:Qd} (hm:MW S A m) {i:Nat} {s:Sensor_} (hs:S[i]?=some s) (w:WS s) {x:Sample_} (hx:byte x.Raw) (hxs:s.Discrete=true→x.OK=true→u16 x.States∧sub16 x.States s.States) {st:Int} (hst:m.states[i]?=some st) :
    Ev (Qcc fuel m (i:Int) x) (λ y=>byte y.2.1∧∃ v,u16 v∧sub16 v (bts s)∧y.1=diff st v (nb s)∧MW S A y.2.2∧y.2.2.states=m.states.set i v):=by
  unfold Qcc
  obtain ⟨n,hn,h⟩:=w.fs
  have hi:=(List.getElem?_eq_some_iff.1 hs).1
  have hsl:=hm.sl
  have hfl:=hm.fl
  obtain ⟨su,ss⟩:=hm.st i st s hst hs
  have keep:m.states.set i st=m.states:=by
    obtain ⟨hl,e⟩:=List.getElem?_eq_some_iff.1 hst
    rw [← e];exact List.set_getElem_self hl
  have hst':idx m.states (i:Int)=some st:=by rw [Qam];exact hst
  refine Ev.to (show idx m.sensors (i:Int)=some s by rw [hm.s,Qam];exact hs) (Ev.ite (λ hd=>?_) (λ hd=>?_))
  · have eb:bts s=s.States:=by unfold bts;rw [if_pos hd]
    have en:nb s=15:=by unfold nb;rw [if_pos hd]
    refine Ev.join (λ v=>∃ to,u16 to∧sub16 to (bts s)∧v.1=diff st to (nb s)∧MW S A v.2∧v.2.states=m.states.set i to) (λ v hv=>Ev.ret ⟨zbyte,hv⟩) (λ j hj=>Ev.ite (λ hok=>Ev.to hst' ?_) (λ _=>hj _ ⟨st,su,ss,by rw [Qqg],hm,keep.symm⟩))
    obtain ⟨xu,xs⟩:=hxs hd hok
    refine Ev.bind (Qwd hf h hd su xu (by rw [← eb];exact ss) xs) (λ y1 h1=>Ev.letP (hj _ ⟨x.States,xu,by rw [eb];exact xs,by rw [en];exact h1.2,?_,?_⟩))
    · rw [h1.1];exact hm.put hs hfl hm.ft ⟨xu,by rw [eb];exact xs⟩
    · simp only [h1.1,upd,Int.toNat_natCast]
  · have eb:bts s=s.Limits.Mask:=by unfold bts;rw [if_neg (by rw [hd];simp)]
    have en:nb s=6:=by unfold nb;rw [if_neg (by rw [hd];simp)]
    obtain ⟨_,lv,_⟩:=h.ana hd
    have m0:=lv.m0
    have m1:=lv.m1
    refine Ev.idx (by omega) (by omega) (λ F _ mF=>Ev.bind (Qux hf h (hm.ft _ mF) hx _) (λ y2 h2=>Ev.letP ?_))
    have q4:∀ G∈upd m.filters (i:Int) y2.1,FT G:=Qsz hm.ft h2
    have ql:(upd m.filters (i:Int) y2.1).length=m.filters.length:=Qgx _ _ _
    have st64:st<64:=Quv (k:=6) su.1 (λ j hj=>Qhy m0 (by omega) (by have:=ss j hj;rwa [eb] at this))
    have wst:IntKind.u8.wrap st=st:=by rw [w_u8];have:=su.1;omega
    refine Ev.idx (by omega) (by omega) (λ G _ mG=>Ev.bind (Qsn hf h (q4 _ mG)) (λ y3 h3=>Ev.ite (λ _=>Ev.ret ⟨zbyte,st,su,ss,by rw [Qqg],?_,keep.symm⟩) (λ _=>Ev.to hst' ?_)))
    · exact ⟨hm.s,hm.l,by simp only [Qgx];exact hfl,q4,hsl,hm.st⟩
    · rw [wst]
      refine Ev.bind (Qwn hf h hd (st:=st) ⟨su.1,by omega⟩ (by rw [← eb];exact ss) h3) (λ y4 h4=>Ev.to hst' (Ev.letP (Ev.ret ⟨h3,y4.1,h4.1.u16,by rw [eb];exact h4.2.1,by rw [en];exact h4.2.2,?_,?_⟩)))
      · have:IntKind.u16.wrap y4.1=y4.1:=by rw [w_u16];have:=h4.1.1;have:=h4.1.2;omega
        rw [this]
        exact hm.put hs (by rw [ql];exact hfl) q4 ⟨h4.1.u16,by rw [eb];exact h4.2.1⟩
      · have:IntKind.u16.wrap y4.1=y4.1:=by rw [w_u16];have:=h4.1.1;have:=h4.1.2;omega
        simp only [this,upd,Int.toNat_natCast]
end Lift
