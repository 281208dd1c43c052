import Derived.Test.YtahlmfpllhmjoaaGreatDoorHeg
set_option linter.unusedVariables false
set_option linter.unusedSimpArgs false
namespace Lift
open Go
def GE (fuel:Nat) (S:List Sensor_) (e:Event_) (p:Nat×Change_):Prop :=
  ∃ (s:Sensor_) (k:Nat),S[p.1]?=some s∧p.2.Index=k∧k<15∧bit (bts s) k=true∧Qel fuel e=some ((k:Int),!s.Discrete,true)∧e.Sensor=s.Number∧e.SensorType=s.Type_∧e.Deassert=!p.2.Asserted
structure EvL (fuel:Nat) (S:List Sensor_) (all:List Event_) (cs:List (Nat×Change_)):Prop where
  len:all.length=cs.length
  at_:∀ (k:Nat) e p,all[k]?=some e→cs[k]?=some p→GE fuel S e p
structure EV (e:Event_):Prop where
  id:e.ID=0
  tm:e.Time=0
  gn:e.Generator=32
  st:byte e.SensorType
  sn:byte e.Sensor
  ty:e.Type_=1∨e.Type_=111
  da:∃ a b c,e.Data=[a,b,c]∧byte a∧byte b∧byte c
theorem EvL.nil (fuel:Nat) (S:List Sensor_):EvL fuel S [] []:=⟨rfl,λ k e p h=>by simp at h⟩
theorem EvL.append {fuel:Nat} {S:List Sensor_} {a b:List Event_} {c d:List (Nat×Change_)} (h:EvL fuel S a c) (g:EvL fuel S b d):EvL fuel S (a++b) (c++d):=by
  have hl:=h.len
  refine ⟨by simp [h.len,g.len],λ k e p he hp=>?_⟩
  by_cases hk:k<a.length
  · rw [List.getElem?_append_left hk] at he
    rw [List.getElem?_append_left (by omega)] at hp
    exact h.at_ k e p he hp
  · rw [List.getElem?_append_right (by omega)] at he
    rw [List.getElem?_append_right (by omega),← hl] at hp
    exact g.at_ _ e p he hp
theorem EvL.one {fuel:Nat} {S:List Sensor_} {e:Event_} {p:Nat×Change_} (h:GE fuel S e p):EvL fuel S [e] [p]:=⟨rfl,λ k e' p' he hp=>by
  cases k with
  | zero=>simp at he hp;subst he hp;exact h
  | succ k=>simp at he⟩
theorem Qul (fuel:Nat) (t n:Int) {k:Nat} (hk:k<15) (as:Bool):Qgl fuel t n (k:Int) as=some ((⟨0,0,32,t,n,111,!as,[(k:Int),255,255]⟩:Event_),0):=by
  unfold Qgl
  have hw:IntKind.u8.wrap (k:Int)=k:=by rw [w_u8];omega
  simp only [Qwb,decide_eq_false (show ¬ ((k:Int)<0) by omega),Qiq,decide_eq_false (show ¬ ((k:Int)>14) by omega),hw]
theorem Qrv (fuel:Nat) (t n:Int) {k:Nat} (hk:k<15) (b:Bool):Qel fuel (⟨0,0,32,t,n,111,b,[(k:Int),255,255]⟩:Event_)=some ((k:Int),false,true):=by
  apply Ev.eq
  unfold Qel
  refine Ev.letE (c:=false) rfl (Ev.iteF rfl (Ev.join (λ v=>v=true) (λ v hv=>Ev.iteT hv (Ev.to rfl (Ev.chk rfl (Ev.ret ?_)))) (λ j hj=>Ev.iteT rfl (Ev.to rfl (Ev.chk rfl (Ev.letP (hj _ (decide_eq_true (by omega)))))))))
  rw [w_i64 (by omega) (by omega)]
theorem Qtz {fuel:Nat} (hf:100<fuel) (t n q lim:Int) {k:Nat} (hk:k<6) (b:Bool):Qel fuel (⟨0,0,32,t,n,1,b,[80+offs k,q,lim]⟩:Event_)=some ((k:Int),true,true):=by
  obtain ⟨f,rfl⟩:∃ f,fuel=f+20:=⟨fuel-20,by omega⟩
  obtain rfl | rfl | rfl | rfl | rfl | rfl:k=0∨k=1∨k=2∨k=3∨k=4∨k=5:=by omega
  all_goals rfl
theorem Qqx (fuel:Nat) (t n:Int) {k:Nat} (hk:k<6) (as:Bool) (q lim:Int):Qei fuel t n (k:Int) as q lim=some ((⟨0,0,32,t,n,1,!as,[80+offs k,q,lim]⟩:Event_),0):=by
  apply Ev.eq
  unfold Qei
  have ho:idx [0,2,4,7,9,11] (k:Int)=some (offs k)∧IntKind.u8.wrap (80+offs k)=80+offs k:=by
    obtain rfl | rfl | rfl | rfl | rfl | rfl:k=0∨k=1∨k=2∨k=3∨k=4∨k=5:=by omega
    all_goals exact ⟨rfl,rfl⟩
  refine Ev.join (λ b=>b=false) (λ b hb2=>Ev.iteF hb2 (Ev.to ho.1 (Ev.ret (by rw [ho.2])))) (λ j hj=>Ev.decF (by omega) (hj _ (by simp;omega)))
theorem Qun {k:Nat} (hk:k<6):byte (80+offs k):=by
  obtain rfl | rfl | rfl | rfl | rfl | rfl:k=0∨k=1∨k=2∨k=3∨k=4∨k=5:=by omega
  all_goals (unfold byte offs;decide)
theorem Qtx {fuel:Nat} (hf:100<fuel) {S:List Sensor_} {i:Nat} {s:Sensor_} (hs:S[i]?=some s) (w:WS s) {q:Int} (hq:byte q) {cs:List Change_} (hl:cs.length≤15) (hc:∀ c∈cs,∃ k:Nat,c.Index=k∧k<nb s∧bit (bts s) k=true) :
    Ev (Qes fuel s cs q) (λ l=>EvL fuel S l (cs.map (λ c=>(i,c)))∧∀ e∈l,EV e):=by
  unfold Qes
  obtain ⟨n0,bn,h⟩:=w.fs
  have hnum:=h.number
  have bnum:byte s.Number:=by rw [hnum];exact bn
  have hb:=h.bts
  refine Ev.loop (λ (n:Nat) (x:Int×List Event_)=>∃ j:Nat,x.1=j∧j+n=cs.length∧EvL fuel S x.2 ((cs.take j).map (λ c=>(i,c)))∧∀ e∈x.2,EV e) (λ n x hI self hself=>?_) (n:=cs.length) (by omega) ⟨0,rfl,by omega,EvL.nil fuel S,by simp⟩
  obtain ⟨pos,l⟩:=x
  obtain ⟨j,i1,i2,i3,i4⟩:=hI
  simp only at i1 i3 i4 ⊢
  subst i1
  refine Ev.dec (λ hlt=>Ev.idx (by omega) hlt (λ c ce cm=>?_)) (λ hge=>Ev.ret ⟨by rw [List.take_of_length_le (by omega)] at i3;exact i3,i4⟩)
  simp only [Int.toNat_natCast] at ce
  obtain ⟨k,k1,k2,k3⟩:=hc c cm
  have hnb:nb s≤15:=by unfold nb;split<;>omega
  have hll:=i3.len
  simp only [List.length_map,List.length_take] at hll
  have ht:(cs.take (j+1)).map (λ c=>(i,c))=(cs.take j).map (λ c=>(i,c))++[(i,c)]:=by
    rw [List.take_add_one,ce];simp
  rw [w_inc (by omega)]
  refine Ev.join (λ v=>v=bts s) (λ v hv=>?_) (λ j' hj'=>Ev.ite (λ _=>hj' _ w.as) (λ _=>hj' _ w.de))
  subst hv
  rw [k1]
  refine Ev.chk (by simp) ?_
  have h1:=Qon hb.1.1 (by have:=hb.1.2;omega) (i:=(k:Int)) (by omega) (by omega)
  simp only [Int.toNat_natCast,k3,if_true] at h1
  rw [h1]
  refine Ev.iteF rfl (Ev.join (λ e=>GE fuel S e (i,c)∧EV e) (λ e he=>Ev.app (by simp;omega) (hself (n-1) _ (by omega) ⟨j+1,rfl,by omega,by rw [ht];exact i3.append (EvL.one he.1),λ e' he'=>by
    rcases List.mem_append.1 he' with h' | h'
    · exact i4 e' h'
    · simp only [List.mem_singleton] at h';subst h';exact he.2⟩)) (λ j' hj'=>Ev.ite (λ hd=>?_) (λ hd=>?_)))
  · refine Ev.to (Qul fuel _ _ (by omega) _) (hj' _ ⟨⟨s,k,hs,k1,by omega,k3,?_,rfl,rfl,rfl⟩,⟨rfl,rfl,rfl,h.ty,bnum,.inr rfl,_,_,_,rfl,⟨by omega,by omega⟩,by unfold byte;decide,by unfold byte;decide⟩⟩)
    rw [Qrv fuel _ _ (by omega),hd];rfl
  · have k6:k<6:=by unfold nb at k2;rw [if_neg (by rw [hd];simp)] at k2;exact k2
    have h6:=h.lim6.1
    refine Ev.idx (by omega) (by omega) (λ lim _ lm=>Ev.chk (by rw [h6];rfl) (Ev.to (Qqx fuel _ _ k6 _ _ _) (hj' _ ⟨⟨s,k,hs,k1,by omega,k3,?_,rfl,rfl,rfl⟩,⟨rfl,rfl,rfl,h.ty,bnum,.inl rfl,_,_,_,rfl,Qun k6,hq,h.lim6.2 _ lm⟩⟩)))
    rw [Qtz hf _ _ _ _ k6,hd];rfl
def rset (out:List Int) (p:Nat×Change_):List Int:=out.set p.1 (chg (out.getD p.1 0) p.2)
theorem Qqm {i:Nat}:∀ (cs:List Change_) {l:List Int} {st:Int},l[i]?=some st→(cs.map (λ c=>(i,c))).foldl rset l=l.set i (cs.foldl chg st)
  | [],l,st,h=>by
    obtain ⟨hl,e⟩:=List.getElem?_eq_some_iff.1 h
    simp only [List.map_nil,List.foldl_nil]
    rw [← e];exact (List.set_getElem_self hl).symm
  | c::cs,l,st,h=>by
    have hl:=(List.getElem?_eq_some_iff.1 h).1
    have e:rset l (i,c)=l.set i (chg st c):=by simp only [rset];rw [List.getD_eq_getElem?_getD,h];rfl
    simp only [List.map_cons,List.foldl_cons,e]
    rw [Qqm cs (l:=l.set i (chg st c)) (st:=chg st c) (by rw [List.getElem?_set,if_pos rfl,if_pos hl]),List.set_set]
structure WL (S:List Sensor_):Prop where
  ok:∀ s∈S,WS s
  asc:∀ (i:Nat) a b,S[i]?=some a→S[i+1]?=some b→a.Number<b.Number
  inj:∀ (i j:Nat) a b,S[i]?=some a→S[j]?=some b→a.Number=b.Number→i=j
  len:S.length≤6
theorem Qsh {fuel:Nat} (hf:100<fuel) {l:List Sensor_} (h:l.length≤6) (v:Int):Ev (Qo fuel l v) (λ y=>(y=-1∧∀ s∈l,s.Number≠v)∨∃ (i:Nat) (s:Sensor_),y=i∧l[i]?=some s∧s.Number=v):=by
  unfold Qo
  refine Ev.loop (λ (n:Nat) (x:Int)=>∃ i:Nat,x=i∧i+n=l.length∧∀ (j:Nat) s,j<i→l[j]?=some s→s.Number≠v) (λ n x hI self hself=>?_) (n:=l.length) (by omega) ⟨0,rfl,by omega,λ j s h=>by omega⟩
  obtain ⟨i,rfl,i2,i3⟩:=hI
  refine Ev.dec (λ hlt=>Ev.idx (by omega) hlt (λ x hx _=>Ev.to (show Qch fuel x v=some (x.Number==v) from rfl) (Ev.beq (λ e=>Ev.ret (.inr ⟨i,x,rfl,by simpa using hx,e⟩)) (λ e=>?_)))) (λ hge=>Ev.ret (.inl ⟨rfl,λ s hs=>?_⟩))
  · rw [w_inc (by omega)]
    refine hself (n-1) _ (by omega) ⟨i+1,rfl,by omega,λ j s hj hs=>?_⟩
    by_cases c:j=i
    · subst c
      simp only [Int.toNat_natCast] at hx
      rw [hx] at hs;obtain rfl:=Option.some.inj hs;exact e
    · exact i3 j s (by omega) hs
  · obtain ⟨j,hj⟩:=List.getElem?_of_mem hs
    exact i3 j s (by have:=(List.getElem?_eq_some_iff.1 hj).1;omega) hj
theorem Qus {fuel:Nat} (hf:100<fuel) {l:List Sample_} (h:l.length≤6) (s:Sensor_):Ev (Qn fuel l s) (λ y=>y=-1∨∃ (i:Nat) (x:Sample_),y=i∧l[i]?=some x∧x.Number=s.Number):=by
  unfold Qn
  refine Ev.loop (λ (n:Nat) (x:Int)=>∃ i:Nat,x=i∧i+n=l.length) (λ n x hI self hself=>?_) (n:=l.length) (by omega) ⟨0,rfl,by omega⟩
  obtain ⟨i,rfl,i2⟩:=hI
  refine Ev.dec (λ hlt=>Ev.idx (by omega) hlt (λ x hx _=>Ev.to (show Qci fuel x s=some (x.Number==s.Number) from rfl) (Ev.beq (λ e=>Ev.ret (.inr ⟨i,x,rfl,by simpa using hx,e⟩)) (λ e=>?_)))) (λ hge=>Ev.ret (.inl rfl))
  rw [w_inc (by omega)]
  exact hself (n-1) _ (by omega) ⟨i+1,rfl,by omega⟩
theorem Qvd {fuel:Nat} (hf:100<fuel) {S:List Sensor_} (hS:S.length≤6) {m:Qd} (m1:m.sensors=S) {xs:List Sample_} (hx:xs.length≤6):Ev (Qbw fuel m xs) (λ y=>y=0→∀ x∈xs,∃ s∈S,s.Number=x.Number∧bAndNot .u16 x.States s.States=0):=by
  unfold Qbw
  refine Ev.loop (λ (n:Nat) (x:Int)=>∃ i:Nat,x=i∧i+n=xs.length∧∀ (j:Nat) x,j<i→xs[j]?=some x→∃ s∈S,s.Number=x.Number∧bAndNot .u16 x.States s.States=0) (λ n x hI self hself=>?_) (n:=xs.length) (by omega) ⟨0,rfl,by omega,λ j x h=>by omega⟩
  obtain ⟨i,rfl,i2,i3⟩:=hI
  refine Ev.dec (λ hlt=>Ev.idx (by omega) hlt (λ x1 hx1 _=>?_)) (λ hge=>Ev.ret (λ _ x hx=>?_))
  · simp only [Int.toNat_natCast] at hx1
    have hw':IntKind.i64.wrap ((i:Int)-1)=(i:Int)-1:=w_i64 (by omega) (by omega)
    rw [w_inc (by omega),hw']
    refine Ev.join (λ _=>True) (λ b _=>Ev.ite (λ _=>Ev.ret (λ h=>absurd h (by decide))) (λ _=>?_)) (λ j hj=>?_)
    · have hfd:Ev (Qak fuel m x1.Number) (λ y:Int=>y=-1∨∃ (i:Nat) (s:Sensor_),y=i∧S[i]?=some s∧s.Number=x1.Number):=by
        unfold Qak;rw [m1]
        exact Ev.bind (Qsh hf hS _) (λ y hy=>Ev.ret (hy.imp (λ h=>h.1) id))
      refine Ev.bind hfd (λ y1 h1=>?_)
      rcases h1 with rfl | ⟨k,s,rfl,hk,hnum⟩
      · exact Ev.decT (by omega) (Ev.ret (λ h=>absurd h (by decide)))
      refine Ev.decF (by omega) (Ev.to (show idx m.sensors (k:Int)=some s by rw [m1,Qam];exact hk) ?_)
      refine Ev.join (λ _=>True) (λ b _=>Ev.ite (λ _=>Ev.ret (λ h=>absurd h (by decide))) (λ _=>Ev.letP (Ev.bne (λ _=>Ev.ret (λ h=>absurd h (by decide))) (λ hz=>hself (n-1) _ (by omega) ⟨i+1,rfl,by omega,λ j x hj hx=>?_⟩)))) (λ j hj=>?_)
      · by_cases c:j=i
        · subst c;rw [hx1] at hx;obtain rfl:=Option.some.inj hx
          exact ⟨s,List.mem_of_getElem? hk,hnum,hz⟩
        · exact i3 j x (by omega) hx
      · exact Ev.ite (λ _=>Ev.ite (λ _=>hj _ trivial) (λ _=>Ev.ite (λ _=>Ev.letP (hj _ trivial)) (λ _=>hj _ trivial))) (λ _=>Ev.ite (λ _=>Ev.letP (hj _ trivial)) (λ _=>hj _ trivial))
    · have tail:Ev (iteP (!x1.OK) (iteP (x1.Raw != 0) (j true) (j (x1.States != 0))) (j false)) (λ y=>y=0→∀ x∈xs,∃ s∈S,s.Number=x.Number∧bAndNot .u16 x.States s.States=0):=Ev.ite (λ _=>Ev.ite (λ _=>hj _ trivial) (λ _=>hj _ trivial)) (λ _=>hj _ trivial)
      exact Ev.letP (Ev.dec (λ hpos=>Ev.idx (by omega) (by omega) (λ x7 _ _=>Ev.dec (λ _=>hj _ trivial) (λ _=>tail))) (λ _=>tail))
  · obtain ⟨j,hj⟩:=List.getElem?_of_mem hx
    exact i3 j x (by have:=(List.getElem?_eq_some_iff.1 hj).1;omega) hj
theorem Qvx {fuel:Nat} (hf:100<fuel) {S:List Sensor_} (hS:WL S) {A:List Association_} {es:List Entity_} (hP:∀ e,Tot (Qdo fuel A es e)) {m:Qd} (hm:MW S A m) {xs:List Sample_} (hx:xs.length≤6) (hr:∀ x∈xs,byte x.Raw∧u16 x.States) (host:Bool) :
    Ev (Qbd fuel m xs es host) (λ y=>MW S A y.2.2∧(y.1.length≤90∧∀ e∈y.1,EV e)∧(y.2.1≠0→y.2.2=m)∧∃ cs,EvL fuel S y.1 cs∧y.2.2.states=cs.foldl rset m.states):=by
  unfold Qbd
  have h6:=hS.len
  have hsl:=hm.s
  refine Ev.bind (Qvd hf h6 hm.s hx) (λ y1 h1=>Ev.bne (λ _=>Ev.ret ⟨hm,⟨by simp,by simp⟩,λ _=>rfl,[],EvL.nil fuel S,rfl⟩) (λ e0=>?_))
  have hck:=h1 e0
  refine Ev.loop (λ (n:Nat) (x:Int×Qd×List Event_)=>∃ i:Nat,x.1=i∧i+n=S.length∧MW S A x.2.1∧(x.2.2.length≤15*i∧∀ e∈x.2.2,EV e)∧∃ cs,EvL fuel S x.2.2 cs∧x.2.1.states=cs.foldl rset m.states) (λ n x hI self hself=>?_) (n:=S.length) (by omega) ⟨0,rfl,by omega,hm,⟨by simp,by simp⟩,[],EvL.nil fuel S,rfl⟩
  obtain ⟨pos,m',out⟩:=x
  obtain ⟨i,i1,i2,i3,⟨i4,i7⟩,cs,i5,i6⟩:=hI
  simp only at i1 i3 i4 i5 i6 i7 ⊢
  subst i1
  rw [hsl]
  refine Ev.dec (λ hlt=>Ev.idx (by omega) hlt (λ s hes sm=>?_)) (λ hge=>Ev.ret ⟨i3,⟨by simp only;omega,i7⟩,λ h=>absurd rfl h,cs,i5,i6⟩)
  simp only [Int.toNat_natCast] at hes
  have w:=hS.ok s sm
  obtain ⟨n0,_,fs⟩:=w.fs
  have hb:=fs.bts
  have hnb:nb s≤15:=by unfold nb;split<;>omega
  rw [i3.l,w_inc (by omega)]
  refine Ev.bind (hP s.Entity) (λ y2 _=>Ev.join (λ _=>True) (λ b _=>Ev.ite (λ _=>?_) (λ _=>?_)) (λ j hj=>Ev.ite (λ _=>hj _ trivial) (λ _=>Ev.ite (λ _=>hj _ trivial) (λ _=>hj _ trivial))))
  · refine Ev.idx (by omega) (by have:=i3.fl;omega) (λ _ _ _=>Ev.letP (hself (n-1) _ (by omega) ⟨i+1,rfl,by omega,⟨i3.s,rfl,by simp only [Qgx];exact i3.fl,Qsz i3.ft FT.z,i3.sl,i3.st⟩,⟨by simp only;omega,i7⟩,cs,i5,i6⟩))
  · have hst:∃ st,m'.states[i]?=some st:=⟨_,List.getElem?_eq_getElem (by have:=i3.sl;omega)⟩
    obtain ⟨st,hst⟩:=hst
    obtain ⟨su,ss⟩:=i3.st i st s hst hes
    refine Ev.bind (Qus hf hx s) (λ y3 h3=>Ev.join (λ x:Sample_=>byte x.Raw∧(s.Discrete=true→x.OK=true→u16 x.States∧sub16 x.States s.States)) (λ x hxx=>?_) (λ j hj=>?_))
    · refine Ev.bind (Qwg hf i3 hes w hxx.1 hxx.2 hst) (λ y4 h4=>?_)
      obtain ⟨vb,v,v1,v2,v3,v4,v5⟩:=h4
      have hdl:=Qoz st v (nb s)
      rw [v3]
      refine Ev.bind (Qtx hf hes w vb (by omega) (λ c hc=>?_)) (λ y5 h5=>Ev.app (by have:=h5.1.len;simp at this;simp;omega) (hself (n-1) _ (by omega) ⟨i+1,rfl,by omega,v4,⟨by have:=h5.1.len;simp at this;simp;omega,λ e he=>by
        rcases List.mem_append.1 he with h' | h'
        · exact i7 e h'
        · exact h5.2 e h'⟩,cs++(diff st v (nb s)).map (λ c=>(i,c)),i5.append h5.1,?_⟩))
      · obtain ⟨k,k1,k2,k3,_⟩:=Qwu hc
        exact ⟨k,k2,k1,by rcases k3 with k3 | k3;(· exact ss k k3);(· exact v2 k k3)⟩
      · simp only
        rw [v5,List.foldl_append,← i6,Qqm _ hst,diff_to su v1 (by omega) (λ j hj=>?_)]
        have f1:∀ u,sub16 u (bts s)→bit u j=false:=λ u hu=>by
          cases hc:bit u j
          · rfl
          · have:=hb.2 j (hu j hc);omega
        rw [f1 st ss,f1 v v2]
    · rcases h3 with rfl | ⟨k,x,rfl,hk,hnum⟩
      · exact Ev.decF (by omega) (hj _ ⟨zbyte,λ _ h=>by cases h⟩)
      · refine Ev.decT (by omega) (Ev.to (show idx xs (k:Int)=some x by rw [Qam];exact hk) (hj _ ⟨(hr x (List.mem_of_getElem? hk)).1,λ _ _=>?_⟩))
        have xu:=(hr x (List.mem_of_getElem? hk)).2
        obtain ⟨s2,m2,n2,z2⟩:=hck x (List.mem_of_getElem? hk)
        obtain ⟨j2,hj2⟩:=List.getElem?_of_mem m2
        have:=hS.inj i j2 s s2 hes hj2 (by rw [n2,hnum])
        subst this
        rw [hes] at hj2
        obtain rfl:=Option.some.inj hj2
        exact ⟨xu,(Qoj xu fs.words.1).1 z2⟩
end Lift
