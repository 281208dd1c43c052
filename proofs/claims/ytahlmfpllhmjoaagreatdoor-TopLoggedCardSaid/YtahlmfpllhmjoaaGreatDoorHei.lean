import Derived.Test.YtahlmfpllhmjoaaGreatDoorHeh
set_option linter.unusedVariables false
set_option linter.unusedSimpArgs false
namespace Lift
open Go
theorem Qrs {S:List Sensor_} (h:∀ (i:Nat) a b,S[i]?=some a→S[i+1]?=some b→a.Number<b.Number) {i:Nat} {a:Sensor_} (ha:S[i]?=some a):∀ (d:Nat) b,S[i+d+1]?=some b→a.Number<b.Number
  | 0,b,hb=>h i a b ha hb
  | d+1,b,hb=>by
    have hl:=(List.getElem?_eq_some_iff.1 hb).1
    have hm:S[i+d+1]?=some S[i+d+1]:=List.getElem?_eq_getElem (by omega)
    have h1:=Qrs h ha d _ hm
    have h2:=h (i+d+1) _ b hm hb
    omega
theorem asc_inj {S:List Sensor_} (h:∀ (i:Nat) a b,S[i]?=some a→S[i+1]?=some b→a.Number<b.Number):∀ (i j:Nat) a b,S[i]?=some a→S[j]?=some b→a.Number=b.Number→i=j:=by
  intro i j a b ha hb e
  rcases Nat.lt_trichotomy i j with c | c | c
  · have:=Qrs h ha (j-i-1) b (by rw [show i+(j-i-1)+1=j by omega];exact hb)
    omega
  · exact c
  · have:=Qrs h hb (i-j-1) a (by rw [show j+(i-j-1)+1=i by omega];exact ha)
    omega
structure SN (m:Nat) (l:List Sensor_):Prop where
  ok:∀ s∈l,∃ n,byte n∧FS n s
  asc:∀ (i:Nat) a b,l[i]?=some a→l[i+1]?=some b→a.Number<b.Number
  len:l.length≤m
theorem Qsq {fuel:Nat} (hf:100<fuel) {d:Qg} (h:DOk d) {m:Nat} (hm:m≤10):Ev (Qde fuel d (m:Int)) (λ y=>SN m y.1∧DOk y.2):=by
  unfold Qde
  have hw1:IntKind.i64.wrap ((m:Int)+1)=(m:Int)+1:=w_i64 (by omega) (by omega)
  rw [hw1]
  refine Ev.bind (Qs fuel h (by decide) (by decide)) (λ y1 h1=>Ev.bind (Qs fuel h1.2.2 (by omega) (by omega)) (λ y2 h2=>?_))
  obtain ⟨a0,a1,_⟩:=h1
  obtain ⟨b0,b1,hd⟩:=h2
  refine Ev.loop (λ (k:Nat) (x:Int×Int×Qg×List Sensor_)=>x.2.1=k∧(x.2.2.2.length:Int)+k≤m∧0≤x.1∧x.1≤20+5*x.2.2.2.length∧(∀ s∈x.2.2.2,(∃ n,byte n∧FS n s)∧s.Number<x.1)∧(∀ (i:Nat) a b,x.2.2.2[i]?=some a→x.2.2.2[i+1]?=some b→a.Number<b.Number)∧DOk x.2.2.1) (λ k x hI self hself=>?_) (n:=y2.1.toNat) (by omega) ⟨by simp only;omega,by simp;omega,a0,by simp;omega,by simp,by simp,hd⟩
  obtain ⟨i1,i2,i3,i4,i5,i6,i7⟩:=hI
  obtain ⟨num0,cnt,dc,l⟩:=x
  simp only at i1 i2 i3 i4 i5 i6 i7 ⊢
  refine Ev.dec (λ hpos=>?_) (λ hge=>Ev.ret ⟨⟨λ s hs=>(i5 s hs).1,i6,by simp only;omega⟩,i7⟩)
  have hn:IntKind.u8.wrap num0=num0:=by rw [w_u8];omega
  rw [hn]
  refine Ev.bind (Qui hf i7 num0) (λ y3 h3=>Ev.app (by simp only [List.length_cons,List.length_nil];omega) (Ev.bind (Qs fuel h3.2 (by decide) (by decide)) (λ y4 h4=>?_)))
  obtain ⟨c0,c1,hd4⟩:=h4
  refine Ev.letE (c:=num0+(1+y4.1)) (by rw [w_i64 (show -9223372036854775808≤1+y4.1 by omega) (by omega),w_i64 (by omega) (by omega)]) (Ev.letE (c:=cnt-1) (w_i64 (by omega) (by omega)) (hself (k-1) _ (by omega) ⟨by simp only;omega,by simp;omega,by simp only;omega,by simp;omega,λ s hs=>?_,λ i a b ha hb=>?_,hd4⟩))
  · rcases List.mem_append.1 hs with hs | hs
    · obtain ⟨p,q⟩:=i5 s hs;exact ⟨p,by simp only;omega⟩
    · simp only [List.mem_singleton] at hs;subst hs
      exact ⟨⟨num0,⟨i3,by omega⟩,h3.1⟩,by have:=h3.1.number;simp only;omega⟩
  · simp only at ha hb
    rcases Nat.lt_trichotomy (i+1) l.length with hc | hc | hc
    · rw [List.getElem?_append_left hc] at hb
      rw [List.getElem?_append_left (by omega)] at ha
      exact i6 i a b ha hb
    · rw [List.getElem?_append_left (by omega)] at ha
      rw [List.getElem?_append_right (by omega),show i+1-l.length=0 by omega] at hb
      simp at hb;subst hb
      have:=(i5 a (List.mem_of_getElem? ha)).2
      rw [h3.1.number];exact this
    · rw [List.getElem?_append_right (by omega)] at hb
      have:=Qpe hb
      simp at this;omega
theorem FS.watch {n:Int} {s:Sensor_} (h:FS n s) {v:Int} (hv:v=Lift.bts s):FS n { s with Assert:=v,Deassert:=v,Samples:=1 }:=by
  subst hv
  have hb:=h.bts
  obtain ⟨h1,h2,h3,h4,h5,h6,h7,h8,h9,h10⟩:=h
  refine ⟨h1,h2,h3,h4,h5,.inl rfl,h7,⟨h8.1,hb.1,hb.1⟩,λ hd=>?_,λ hd=>?_⟩
  · obtain ⟨c,lv,z,_⟩:=h9 hd
    have e:Lift.bts s=s.Limits.Mask:=by unfold Lift.bts;rw [if_neg (by simp only at hd;rw [hd];simp)]
    refine ⟨c,lv,z,?_⟩
    simp only [e]
    exact Qpv lv.m0 lv.m1
  · obtain ⟨d1,d2,d3,d4,d5,d6,d7⟩:=h10 hd
    have e:Lift.bts s=s.States:=by unfold Lift.bts;rw [if_pos hd]
    refine ⟨d1,d2,d3,d4,rfl,d6,?_⟩
    simp only [e]
    obtain ⟨ob,oe⟩:=or16 h8.1 h8.1
    exact (Qoj ob h8.1).2 (λ i hi=>by rw [oe,Bool.or_self] at hi;exact hi)
theorem Qua {fuel:Nat} (hf:100<fuel) {d:Qg} (h:DOk d) {m:Nat} (hm:m≤6):Ev (Qgj fuel d (m:Int)) (λ y=>WL y.1∧y.1.length≤m∧DOk y.2):=by
  unfold Qgj
  refine Ev.bind (Qsq hf h (by omega)) (λ y1 h1=>?_)
  obtain ⟨hS,hd⟩:=h1
  have hl:=hS.len
  refine Ev.loop (λ (n:Nat) (x:Int×List Sensor_)=>∃ i:Nat,x.1=i∧i+n=y1.1.length∧x.2.length=y1.1.length∧(∀ (j:Nat) t,x.2[j]?=some t→∃ t0,y1.1[j]?=some t0∧t.Number=t0.Number∧(j<i→WS t)∧(i≤j→t=t0))) (λ n x hI self hself=>?_) (n:=y1.1.length) (by omega) ⟨0,rfl,by omega,rfl,λ j t ht=>⟨t,ht,rfl,λ h=>by omega,λ _=>rfl⟩⟩
  obtain ⟨pos,l⟩:=x
  obtain ⟨i,i1,i2,i3,i4⟩:=hI
  simp only at i1 i3 i4 ⊢
  subst i1
  refine Ev.dec (λ hlt=>?_) (λ hge=>Ev.ret ⟨⟨λ t ht=>?_,?_,?_,by simp only;omega⟩,by simp only;omega,hd⟩)
  · obtain ⟨t,ht⟩:∃ t,l[i]?=some t:=⟨_,List.getElem?_eq_getElem (by omega)⟩
    have it:idx l (i:Int)=some t:=by rw [Qam];exact ht
    obtain ⟨t0,e1,e2,_,e4⟩:=i4 i t ht
    have:=e4 (by omega)
    subst this
    obtain ⟨n0,bn,fs⟩:=hS.ok t (List.mem_of_getElem? e1)
    have li:i<l.length:=by omega
    refine Ev.to it (Ev.to it (Ev.join (λ v=>v=bts t) (λ v hv=>?_) (λ j hj=>?_)))
    · have hget:∀ u:Sensor_,idx (upd l (i:Int) u) (i:Int)=some u:=λ u=>by
        rw [Qam];simp only [upd,Int.toNat_natCast];rw [List.getElem?_set,if_pos rfl,if_pos li]
      have hset:∀ u u':Sensor_,upd (upd l (i:Int) u) (i:Int) u'=upd l (i:Int) u':=λ u u'=>by simp only [upd,List.set_set]
      refine Ev.to it (Ev.letP (Ev.to (hget _) (Ev.letP ?_)))
      rw [hset]
      refine Ev.to (hget _) (Ev.letP ?_)
      rw [hset]
      refine Ev.letE (w_inc (by omega)) (hself (n-1) _ (by omega) ⟨i+1,rfl,by omega,by simp only [Qgx];exact i3,λ j u hu=>?_⟩)
      simp only [upd,Int.toNat_natCast,List.getElem?_set] at hu
      by_cases c:i=j
      · subst c
        rw [if_pos rfl,if_pos li] at hu
        obtain rfl:=Option.some.inj hu
        exact ⟨t,e1,rfl,λ _=>⟨⟨n0,bn,fs.watch hv⟩,hv,hv⟩,λ h=>by omega⟩
      · rw [if_neg c] at hu
        obtain ⟨u0,g1,g2,g3,g4⟩:=i4 j u hu
        exact ⟨u0,g1,g2,λ h=>g3 (by omega),λ h=>g4 (by omega)⟩
    · refine Ev.ite (λ hdd=>Ev.to it (Ev.letP (hj _ ?_))) (λ hdd=>hj _ ?_)
      · have hdf:t.Discrete=false:=by simpa using hdd
        obtain ⟨_,lv,_⟩:=fs.ana hdf
        have m0:=lv.m0
        have m1:=lv.m1
        unfold bts
        rw [if_neg (by rw [hdf];simp),w_u16];omega
      · have hdt:t.Discrete=true:=by simpa using hdd
        unfold bts;rw [if_pos hdt]
  · obtain ⟨j,hj⟩:=List.getElem?_of_mem ht
    obtain ⟨_,_,_,e3,_⟩:=i4 j t hj
    have hjl:=(List.getElem?_eq_some_iff.1 hj).1
    simp only at hjl
    exact e3 (by omega)
  · intro j a b ha hb
    obtain ⟨a0,g1,g2,_⟩:=i4 j a ha
    obtain ⟨b0,k1,k2,_⟩:=i4 (j+1) b hb
    have:=hS.asc j a0 b0 g1 k1
    omega
  · refine asc_inj (λ j a b ha hb=>?_)
    obtain ⟨a0,g1,g2,_⟩:=i4 j a ha
    obtain ⟨b0,k1,k2,_⟩:=i4 (j+1) b hb
    have:=hS.asc j a0 b0 g1 k1
    omega
theorem Qqj {fuel:Nat} (hf:100<fuel) {l:List Sensor_} (hl:WL l):Qed fuel l=some 0:=by
  apply Ev.eq
  unfold Qed
  have h6:=hl.len
  refine Ev.decF (by omega) (Ev.loop (λ (n:Nat) (x:Int)=>∃ i:Nat,x=i∧i+n=l.length) (λ n x hI self hself=>?_) (n:=l.length) (by omega) ⟨0,rfl,by omega⟩)
  obtain ⟨i,rfl,i2⟩:=hI
  refine Ev.dec (λ hlt=>Ev.idx (by omega) hlt (λ s e1 sm=>?_)) (λ _=>Ev.ret rfl)
  have hw':IntKind.i64.wrap ((i:Int)-1)=(i:Int)-1:=w_i64 (by omega) (by omega)
  obtain ⟨nn,_,fs⟩:=(hl.ok s sm).fs
  rw [w_inc (by omega),hw']
  refine Ev.join (λ b=>b=false) (λ b hb=>Ev.iteF hb (hself (n-1) _ (by omega) ⟨i+1,rfl,by omega⟩)) (λ j hj=>Ev.to (fs.valid hf) (Ev.letP (Ev.iteF rfl (Ev.letP (Ev.dec (λ hpos=>Ev.idx (by omega) (by omega) (λ s2 e2 _=>hj _ ?_)) (λ _=>hj _ rfl))))))
  have:=hl.asc ((i:Int)-1).toNat s2 s e2 (by rw [show ((i:Int)-1).toNat+1=(i:Int).toNat by omega];exact e1)
  simp;omega
theorem Qro {n:Int} {s:Sensor_} (h:FS n s):s.Conversion.Points.length≤12:=by
  cases hd:s.Discrete
  · exact (h.ana hd).1.points
  · rw [(h.dis hd).1];simp [Conversion_.z]
def Qkk (S:List Sensor_) (A:List Association_):Qd:=⟨S,A,List.replicate S.length Filter_.z,List.replicate S.length 0⟩
theorem new_MW (S:List Sensor_) (A:List Association_):MW S A (Qkk S A):=by
  refine ⟨rfl,rfl,by simp [Qkk],λ F hF=>by rw [List.eq_of_mem_replicate hF];exact FT.z,by simp [Qkk],λ i v s hv hs=>?_⟩
  simp only [Qkk,List.getElem?_replicate] at hv
  split at hv
  · obtain rfl:=Option.some.inj hv
    exact ⟨Qjm,λ j hj=>by rw [Qfc] at hj;cases hj⟩
  · cases hv
theorem wNew_ev {fuel:Nat} (hf:100<fuel) {S:List Sensor_} (hS:WL S) {A:List Association_} (hE:Qeo fuel A=some 0) (hA32:A.length≤32):Ev (Qfo fuel S A) (λ y=>y=(some (Qkk S A),0)):=by
  unfold Qfo
  have h5:=hS.len
  refine Ev.to (Qqj hf hS) (Ev.bneF rfl (Ev.to hE (Ev.bneF rfl ?_)))
  have c1:Qai fuel S=some S:=by
    unfold Qai
    rw [Qoe (by simp;omega)];simp
  have c2:Qaa fuel A=some A:=by
    unfold Qaa
    rw [Qoe (by simp;omega)];simp
  have c3:mk 32 Filter_.z (S.length:Int)=some (List.replicate S.length Filter_.z):=by unfold mk;rw [if_pos ⟨by omega,by simp;omega⟩];simp
  have c4:mk 2 (0:Int) (S.length:Int)=some (List.replicate S.length 0):=by unfold mk;rw [if_pos ⟨by omega,by simp;omega⟩];simp
  refine Ev.to c1 (Ev.to c2 (Ev.to c3 (Ev.to c4 ?_)))
  refine Ev.loop (λ (n:Nat) (x:Int×List Sensor_)=>∃ i:Nat,x.1=i∧i+n=S.length∧x.2=S) (λ n x hI self hself=>?_) (n:=S.length) (by omega) ⟨0,rfl,by omega,rfl⟩
  obtain ⟨pos,l'⟩:=x
  obtain ⟨i,i1,i2,i3⟩:=hI
  simp only at i1 i3 ⊢
  subst i1;subst i3
  refine Ev.dec (λ hlt=>Ev.idx (by omega) hlt (λ s e1 sm=>?_)) (λ _=>Ev.ret rfl)
  obtain ⟨nn,_,fs⟩:=(hS.ok s sm).fs
  have hp:=Qro fs
  have hc:Qal fuel s.Conversion.Points=some s.Conversion.Points:=by
    unfold Qal
    rw [Qoe (by simp;omega)];simp
  simp only [Int.toNat_natCast] at e1
  rw [w_inc (by omega)]
  refine Ev.to hc (Ev.to (show idx l' (i:Int)=some s by rw [Qam];exact e1) (Ev.letP (hself (n-1) _ (by omega) ⟨i+1,rfl,by omega,?_⟩)))
  simp only [upd,Int.toNat_natCast]
  apply List.ext_getElem?
  intro j
  rw [List.getElem?_set]
  by_cases e:i=j
  · subst e
    rw [if_pos rfl,if_pos (by omega),e1]
  · rw [if_neg e]
theorem Qwa {fuel:Nat} {d:Qg} (h:DOk d) {n:Int} {s:Sensor_} (fs:FS n s):Ev (Qeq fuel d s) (λ y=>byte y.1∧DOk y.2):=by
  unfold Qeq
  have h6:=fs.lim6.1
  refine Ev.bind (Qet fuel h (by decide) (by decide)) (λ y1 h1=>Ev.ite (λ _=>Ev.bind (Qkj fuel h1) (λ y2 h2=>Ev.ret h2)) (λ _=>Ev.bind (Qs fuel h1 (by decide) (by decide)) (λ y3 h3=>Ev.idx h3.1 (by have:=h3.2.1;omega) (λ x1 _ _=>Ev.chk (by rw [h6];rfl) (Ev.bind (Qs fuel h3.2.2 (by decide) (by decide)) (λ y4 h4=>Ev.letP (Ev.ret ⟨Qha _,h4.2.2⟩)))))))
theorem Qsv {fuel:Nat} (hf:100<fuel) {d:Qg} (h:DOk d) {l:List Sensor_} (hl:WL l):Ev (Qdb fuel d l) (λ y=>(y.1.length≤6∧∀ x∈y.1,byte x.Raw∧u16 x.States)∧DOk y.2):=by
  unfold Qdb
  have h5:=hl.len
  have zz:byte 0∧u16 0:=⟨zbyte,Qjm⟩
  refine Ev.loop (λ (n:Nat) (x:Int×Qg×List Sample_)=>∃ i:Nat,x.1=i∧i+n=l.length∧x.2.2.length≤i∧(∀ v∈x.2.2,byte v.Raw∧u16 v.States)∧DOk x.2.1) (λ n x hI self hself=>?_) (n:=l.length) (by omega) ⟨0,rfl,by omega,by simp,by simp,h⟩
  obtain ⟨pos,dc,acc⟩:=x
  obtain ⟨i,i1,i2,i3,i4,i5⟩:=hI
  simp only at i1 i3 i4 i5 ⊢
  subst i1
  refine Ev.dec (λ hlt=>Ev.idx (by omega) hlt (λ s e1 sm=>?_)) (λ _=>Ev.ret ⟨⟨by simp only;omega,i4⟩,i5⟩)
  have hw:IntKind.i64.wrap ((i:Int)+1)=((i+1:Nat):Int):=by rw [w_i64 (by omega) (by omega)];rfl
  obtain ⟨nn,_,fs⟩:=(hl.ok s sm).fs
  refine Ev.bind (Qet fuel i5 (by decide) (by decide)) (λ y1 h1=>Ev.ite (λ _=>Ev.letE hw (hself (n-1) _ (by omega) ⟨i+1,rfl,by omega,by simp only;omega,i4,h1⟩)) (λ _=>Ev.bind (Qet fuel h1 (by decide) (by decide)) (λ y2 h2=>?_)))
  refine Ev.join (λ _=>True) (λ b _=>?_) (λ j hj=>Ev.ite (λ _=>hj _ trivial) (λ _=>hj _ trivial))
  refine Ev.join (λ v=>DOk v.1∧byte v.2.Raw∧u16 v.2.States) (λ v hv=>?_) (λ j hj=>Ev.ite (λ _=>Ev.bind (Qs fuel h2 (by decide) (by decide)) (λ y8 h8=>hj _ ⟨h8.2.2,zbyte,(and16 (Qek _) fs.words.1).1⟩)) (λ _=>hj _ ⟨h2,zz⟩))
  refine Ev.join (λ _=>True) (λ b _=>?_) (λ j hj=>Ev.ite (λ _=>hj _ trivial) (λ _=>hj _ trivial))
  refine Ev.join (λ v=>DOk v.1∧byte v.2.Raw∧u16 v.2.States) (λ v hv=>?_) (λ j hj=>Ev.ite (λ _=>Ev.bind (Qwa hv.1 fs) (λ y7 h7=>Ev.letP (hj _ ⟨h7.2,h7.1,hv.2.2⟩))) (λ _=>hj _ hv))
  refine Ev.bind (Qet fuel hv.1 (by decide) (by decide)) (λ y3 h3=>?_)
  refine Ev.join (λ v=>DOk v.1∧byte v.2.Raw∧u16 v.2.States) (λ v hv=>Ev.app (by simp;omega) (Ev.letE hw (hself (n-1) _ (by omega) ⟨i+1,rfl,by omega,by simp;omega,λ x hx=>?_,hv.1⟩))) (λ j hj=>Ev.ite (λ _=>Ev.bind (Qkj fuel h3) (λ y4 h4=>Ev.letP (Ev.bind (Qs fuel h4.2 (by decide) (by decide)) (λ y5 h5'=>Ev.letP (Ev.bind (Qkj fuel h5'.2.2) (λ y6 h6=>Ev.letP (hj _ ⟨h6.2,h4.1,Qek _⟩))))))) (λ _=>hj _ ⟨h3,hv.2⟩))
  rcases List.mem_append.1 hx with hx | hx
  · exact i4 x hx
  · simp only [List.mem_singleton] at hx;subst hx;exact hv.2
theorem Qrq (out:List Int) (p:Nat×Change_):(rset out p).length=out.length:=by simp [rset]
theorem Qqe:∀ (cs:List (Nat×Change_)) (out:List Int),(cs.foldl rset out).length=out.length
  | [],_=>rfl
  | p::cs,out=>by rw [List.foldl_cons,Qqe cs,Qrq]
theorem Qvw {fuel:Nat} (hf:100<fuel) {S:List Sensor_} (hS:WL S) {i:Nat} {s:Sensor_} (hs:S[i]?=some s) {e:Event_} (he:e.Sensor=s.Number):Qq fuel S e=some (i:Int):=by
  apply Ev.eq
  have h6:=hS.len
  have hi:=(List.getElem?_eq_some_iff.1 hs).1
  unfold Qq
  refine Ev.loop (λ (n:Nat) (x:Int)=>∃ k:Nat,x=k∧k+n=i) (λ n x hI self hself=>?_) (n:=i) (by omega) ⟨0,rfl,by omega⟩
  obtain ⟨k,rfl,i2⟩:=hI
  refine Ev.decT (by omega) (Ev.idx (by omega) (by omega) (λ x hx _=>Ev.to (show Qdx fuel x e=some (x.Number==e.Sensor) from rfl) (Ev.beq (λ e2=>Ev.ret ?_) (λ e2=>?_))))
  · simp only [Int.toNat_natCast] at hx
    have:=hS.inj k i x s hx hs (by rw [e2,he])
    rw [this]
  · simp only [Int.toNat_natCast] at hx
    have hk:k≠i:=λ c=>by subst c;rw [hs] at hx;obtain rfl:=Option.some.inj hx;exact e2 he.symm
    rw [w_inc (by omega)]
    exact hself (n-1) _ (by omega) ⟨k+1,rfl,by omega⟩
theorem Qmu {fuel:Nat} (hf:100<fuel) {S:List Sensor_} (hS:WL S) {all:List Event_} {cs:List (Nat×Change_)} (h:EvL fuel S all cs) (hl:all.length<fuel) (hl2:all.length≤100000):Qcy fuel S all=some (cs.foldl rset (List.replicate S.length 0),0):=by
  apply Ev.eq
  unfold Qcy
  have h6:=hS.len
  have hlen:=h.len
  have c4:mk 2 (0:Int) (S.length:Int)=some (List.replicate S.length 0):=by unfold mk;rw [if_pos ⟨by omega,by simp;omega⟩];simp
  refine Ev.to (Qqj hf hS) (Ev.bneF rfl (Ev.to c4 ?_))
  refine Ev.loop (λ (n:Nat) (x:Int×List Int)=>∃ j:Nat,x.1=j∧j+n=all.length∧x.2=(cs.take j).foldl rset (List.replicate S.length 0)∧∀ v∈x.2,u16 v) (λ n x hI self hself=>?_) (n:=all.length) (by omega) ⟨0,rfl,by omega,rfl,λ v hv=>by rw [List.eq_of_mem_replicate hv];exact Qjm⟩
  obtain ⟨pos,out⟩:=x
  obtain ⟨j,i1,i2,i3,i4⟩:=hI
  simp only at i1 i3 i4 ⊢
  subst i1
  refine Ev.dec (λ hlt=>Ev.idx (by omega) hlt (λ e he _=>?_)) (λ hge=>Ev.ret (by rw [i3,List.take_of_length_le (by omega)]))
  simp only [Int.toNat_natCast] at he
  obtain ⟨p,hp⟩:∃ p,cs[j]?=some p:=⟨_,List.getElem?_eq_getElem (by omega)⟩
  obtain ⟨s,k,g1,g2,g3,g4,g5,g6,g7,g8⟩:=h.at_ j e p he hp
  obtain ⟨n0,_,fs⟩:=(hS.ok s (List.mem_of_getElem? g1)).fs
  obtain ⟨w,w1,w2,w3⟩:=Qtb fuel fs
  have hol:out.length=S.length:=by rw [i3,Qqe];simp
  have hil:=(List.getElem?_eq_some_iff.1 g1).1
  obtain ⟨v,hv⟩:∃ v,out[p.1]?=some v:=⟨_,List.getElem?_eq_getElem (by omega)⟩
  have hvu:=i4 v (List.mem_of_getElem? hv)
  have ht:(cs.take (j+1)).foldl rset (List.replicate S.length 0)=out.set p.1 (setb v (k:Int) p.2.Asserted):=by
    rw [List.take_add_one,hp,List.foldl_append,← i3]
    simp only [Option.toList,List.foldl_cons,List.foldl_nil,rset,chg,g2]
    rw [List.getD_eq_getElem?_getD,hv];rfl
  refine Ev.to g5 (Ev.to (Qvw hf hS g1 g6) ?_)
  rw [w_inc (by omega)]
  have hov:idx out (p.1:Int)=some v:=by rw [Qam];exact hv
  have next:∀ d,d=out.set p.1 (setb v (k:Int) p.2.Asserted)→Ev (self (((j+1:Nat):Int),d)) (λ y=>y=(cs.foldl rset (List.replicate S.length 0),0)):=λ d hd=>hself (n-1) _ (by omega) ⟨j+1,rfl,by omega,by rw [ht,hd],λ u hu=>by
    simp only [hd] at hu
    rcases List.mem_or_eq_of_mem_set hu with hu | rfl
    · exact i4 u hu
    · exact (Qps hvu (by omega) _).1⟩
  refine Ev.join (λ b=>b=false) (λ b hb=>Ev.iteF hb (Ev.to hov (Ev.chk (by simp) (Ev.letP (Ev.ite (λ hde=>?_) (λ hde=>?_)))))) (λ j2 hj2=>?_)
  · have has:p.2.Asserted=false:=by rw [g8] at hde;simpa using hde
    have hx4:idx (upd out (p.1:Int) (bOr .u16 v (bShl .u16 1 (k:Int)))) (p.1:Int)=some (bOr .u16 v (bShl .u16 1 (k:Int))):=by
      rw [Qam];simp only [upd,Int.toNat_natCast];rw [List.getElem?_set,if_pos rfl,if_pos (by omega)]
    refine Ev.to hx4 (Ev.chk (by simp) (Ev.letP (next _ ?_)))
    simp only [upd,Int.toNat_natCast,List.set_set,setb,has,Bool.false_eq_true,if_false]
  · have has:p.2.Asserted=true:=by rw [g8] at hde;simpa using hde
    refine next _ ?_
    simp only [upd,Int.toNat_natCast,setb,has,if_true]
  · have o1:=Qon w2.1 (by have:=w2.2;omega) (i:=(k:Int)) (by omega) (by omega)
    simp only [Int.toNat_natCast,w3,g4,if_true] at o1
    refine Ev.letE (c:=false) rfl (Ev.iteF rfl (Ev.letE (c:=false) (decide_eq_false (by omega)) (Ev.iteF rfl (Ev.to (by rw [Qam];exact g1) (Ev.letE (c:=false) (by rw [g7];simp) (Ev.iteF rfl (Ev.letE (c:=false) (by cases s.Discrete<;>rfl) (Ev.iteF rfl (Ev.to w1 (Ev.chk (by simp) (hj2 _ ?_)))))))))))
    rw [o1];rfl
end Lift
